/-
  Merged from the texts that this claim's theorem needs, part 7 of 8. No statement of the seat is proved here.
-/
import Derived.KernelRfl
import Derived.Lib.OthersKept
import Derived.Shelf.SlSortCmp.NoneTotal
import Derived.Shelf.Strconv.Itoa3
import Derived.Shelf.Strings.Builder1
import Derived.Shelf.Strings.BuilderF
import Derived.Shelf.Strings.BuilderK
import Derived.Shelf.Strings.OnBuilder
import Derived.TacticsInMore
import Derived.Test.YtjpkfigmmmngnaaGreatDoorChecked
import Derived.Test.YtjpkfigmmmngnaaGreatDoorMq5
set_option linter.unusedSimpArgs false
set_option linter.unusedVariables false
set_option linter.unusedSectionVars false
namespace Go.Proofs.YtjpkfigmmmngnaaGreatDoor
open Go.RowKit
attribute [local irreducible] aw opsK dK
def ltP (p q:Pr):Prop:=p.1<q.1 ∨ p.1=q.1∧p.2<q.2
instance (p q:Pr):Decidable (ltP p q):=inferInstanceAs (Decidable (_ ∨ _))
def Linked (l:List Pr) (p:Pr) (l':List Pr):Prop:=l'=l ∨ (p ∉ l∧∃ i,i≤l.length∧(∀ q∈l.take i,ltP q p)∧(∀ q,l[i]?=some q→¬ ltP q p)∧l'=l.take i++p :: l.drop i)
theorem Linked.sorted {l:List Pr} {p:Pr} {l':List Pr} (h:Linked l p l') (hs:SortedP l):SortedP l':=by
 rcases h with rfl|⟨hp,i,hi,h1,h2,rfl⟩
 · exact hs
 · have hd : SortedP (l.take i) ∧ SortedP (l.drop i) ∧ ∀ a ∈ l.take i, ∀ b ∈ l.drop i, ltP a b := by
    have:=hs
    unfold SortedP at this
    rw [← List.take_append_drop i l,List.pairwise_append] at this
    exact this
   obtain⟨d1,d2,d3⟩:=hd
   have h3:∀ q∈l.drop i,ltP p q:=by
    cases hdr:l.drop i with
    | nil=>intro q hq; cases hq
    | cons x r =>
      have hx:l[i]?=some x:=by
       have:=congrArg List.head? hdr
       rw [List.head?_drop] at this
       exact this
      have hne:x≠p:=fun e=>hp (by rw [← e]; exact List.mem_of_getElem? hx)
      have hpx:ltP p x:=by
       have h4:=h2 x hx
       have h5:¬ (x.1=p.1∧x.2=p.2):=fun h=>hne (Prod.ext h.1 h.2)
       unfold ltP at h4 ⊢
       omega
      intro q hq
      rcases List.mem_cons.1 hq with rfl|hq
      · exact hpx
      · rw [hdr] at d2
        have h6:ltP x q:=(List.pairwise_cons.1 d2).1 q hq
        unfold ltP at hpx h6 ⊢
        omega
   show List.Pairwise _ _
   rw [List.pairwise_append]
   refine⟨d1,List.pairwise_cons.2 ⟨h3,d2⟩,fun a ha b hb=>?_⟩
   rcases List.mem_cons.1 hb with rfl|hb
   · exact h1 a ha
   · exact d3 a ha b hb
theorem Linked.mem {l:List Pr} {p:Pr} {l':List Pr} (h:Linked l p l'):∀ q∈l',q∈l ∨ q=p:=by
 rcases h with rfl|⟨hp,i,hi,h1,h2,rfl⟩
 · exact fun q hq=>.inl hq
 · intro q hq
   rcases List.mem_append.1 hq with hq|hq
   · exact .inl (List.mem_of_mem_take hq)
   · rcases List.mem_cons.1 hq with rfl | hq
     · exact .inr rfl
     · exact .inl (List.mem_of_mem_drop hq)
theorem Linked.len {l:List Pr} {p:Pr} {l':List Pr} (h:Linked l p l'):l'.length≤l.length+1:=by
 rcases h with rfl|⟨hp,i,hi,h1,h2,rfl⟩
 · omega
 · rw [List.length_append,List.length_cons,List.length_take,List.length_drop]; omega
set_option maxHeartbeats 4000000 in
theorem Zdj (l:List Pr) (fl:Bool) (hl:Small l) (a b:Nat) (ha:1≤a∧a<64) (hb0:1≤b∧b<64) (hab:a≠b) (hlen:l.length≤100000):Spec Tryz.prog 110 [.vec (l.map prC) fl,.val (.int .i64 (a:Int)),.val (.int .i64 (b:Int))] fun r=>∃ l' fl' e,Linked l (a,b) l'∧r=.tup [.vec (l'.map prC) fl',.val (.int .i64 e)]:=by
 have hnl:=Z2n l
 have hpl:∀ D,innLL D (l.map prC):=fun D=>Ze (fun _ h=>h.elim) _ (Zi l)
 have hne:((a:Int) == (b:Int))=false:=by rw [beq_eq_false_iff_ne]; omega
 refine Z3 ok110 (Nat.le_of_ble_eq_true rfl) fun C hC=>?_
 (refine go ?_;repeat' (apply B<;>intro hb<;>try cases hb))
 refine Z6 (Z4Y a ha.1 ha.2) rfl rfl rfl ⟨trivial,trivial⟩ rfl ?_
 (refine go ?_;repeat' (apply B<;>intro hb<;>try cases hb))
 refine Z6 (Z4Y b hb0.1 hb0.2) rfl rfl rfl ⟨trivial,trivial⟩ rfl ?_
 (repeat'(first|refine Z5 20 ?_|refine Z1 20 ?_|refine st ?_|(apply B<;>intro hb<;>try cases hb)))<;>try refine At.mk ?_
 refine Zs rfl ?_
 refine Z7 (ZG rfl hne) rfl rfl ?_
 (refine go ?_;repeat' (apply B<;>intro hb<;>try cases hb))
 refine Z6 (Zfc l fl a b) rfl rfl rfl ⟨Zi l,trivial,trivial,trivial⟩ rfl ?_
 by_cases hin:(a,b)∈l
 · rw [decide_eq_true hin]
   (refine go ?_;repeat' (apply B<;>intro hb<;>try cases hb))
   exact Z2 rfl ⟨Zi l,trivial,trivial⟩ ⟨l,fl,5,.inl rfl,rfl⟩
 rw [decide_eq_false hin]
 (refine go ?_;repeat' (apply B<;>intro hb<;>try cases hb))
 refine Z6 (Z8B l fl hl b a hb0.1 hb0.2 ha.1 ha.2) rfl rfl rfl ⟨Zi l,trivial,trivial,trivial⟩ rfl ?_
 generalize (jun l b).testBit a=v
 cases v
 case true =>
  (refine go ?_;repeat' (apply B<;>intro hb<;>try cases hb))
  exact Z2 rfl ⟨Zi l,trivial,trivial⟩ ⟨l,fl,16,.inl rfl,rfl⟩
 (repeat'(first|refine Z5 8 ?_|refine Z1 8 ?_|refine st ?_|(apply B<;>intro hb<;>try cases hb)))<;>try refine At.mk ?_
 refine Z7 rfl rfl rfl ?_
 refine Z18 ?_
 refine Zhw (X:=Nat) hC (fun i=>i≤l.length∧(∀ q∈l.take i,ltP q (a,b))∧(∀ q,l[i]?=some q→¬ ltP q (a,b))) 0 (fun i => [(0,.vec (l.map prC) fl),(1,.val (.int .i64 (a:Int))),(2,.val (.int .i64 (b:Int))),(8,.val (.int .i64 (i:Int)))]) (fun _=>[]) (Nat.zero_le _) ?_ ?_
 · (refine go ?_;repeat' (apply B<;>intro hb<;>try cases hb))
   refine Zo hC (fun i=>i≤l.length∧∀ q∈l.take i,ltP q (a,b)) (fun i=>l.length-i) 0 (fun i => [(0,.vec (l.map prC) fl),(1,.val (.int .i64 (a:Int))),(2,.val (.int .i64 (b:Int))),(8,.val (.int .i64 (i:Int)))]) (fun _=>[]) (Nat.zero_le _) 0 ⟨Nat.zero_le _,by simp⟩ ⟨⟨rfl,hpl _⟩,⟨rfl,trivial⟩,⟨rfl,trivial⟩,⟨rfl,trivial⟩,trivial⟩ trivial ?_
   rintro i ⟨hi,hlt⟩
   have hinc:IntKind.i64.wrap ((i:Int)+1)=((i+1:Nat):Int):=IntWalk.i64_in _ ⟨by omega,by omega⟩
   (repeat'(first|refine Z5 36 ?_|refine Z1 36 ?_|refine st ?_|(apply B<;>intro hb<;>try cases hb)))<;>try refine At.mk ?_
   refine Zg rfl rfl rfl (fun hb=>?_) (fun hb=>?_)
   · rw [hnl] at hb
     have hil:i<l.length:=by have:=of_decide_eq_true hb; omega
     have htk:=Z3O hil
     have hget:l[i]?=some l[i]:=List.getElem?_eq_getElem hil
     clear hb
     (repeat'(first|refine Z5 40 ?_|refine Z1 40 ?_|refine st ?_|(apply B<;>intro hb<;>try cases hb)))<;>try refine At.mk ?_
     refine Zs rfl ?_
     refine Z7 (Zl (xs:=l) (g:=prC) rfl rfl i rfl hil rfl) rfl rfl ?_
     have ei:∀ {e:Env} {h:Heap} {x j:Operand} {n:Nat},ev e x=some (.vec (l.map prC) fl)→ev e j=some (.val (.int .i64 (i:Int)))→dEval (.iaddr 2 x j) e h n=some (.cp (prC l[i]),h):=fun h1 h2=>Zl (xs:=l) (g:=prC) h1 h2 i rfl hil rfl
     generalize l[i]=p at htk hget ei ⊢
     have stop:¬ ltP p (a,b)→∀ q,l[i]?=some q→¬ ltP q (a,b):=fun h q hq=>by rw [hget] at hq; cases hq; exact h
     have more:ltP p (a,b)→∀ q∈l.take (i+1),ltP q (a,b):=fun h q hq=>by
      rw [htk] at hq
      rcases List.mem_append.1 hq with hq|hq
      · exact hlt q hq
      · rw [List.mem_singleton] at hq; subst hq; exact h
     (repeat'(first|refine Z5 44 ?_|refine Z1 44 ?_|refine st ?_|(apply B<;>intro hb<;>try cases hb)))<;>try refine At.mk ?_
     refine Zs rfl ?_
     refine Zg rfl rfl rfl (fun hb=>?_) (fun hb=>?_)
     · have h1 : p.1 < a := by have := of_decide_eq_true hb; omega
       (refine go ?_;repeat' (apply B<;>intro hb<;>try cases hb))
       exact⟨i+1,⟨by omega,more (.inl h1)⟩,by omega,⟨⟨rfl,hpl _⟩,⟨rfl,trivial⟩,⟨rfl,trivial⟩,⟨by show some _=some _; rw [hinc],trivial⟩,trivial⟩,trivial⟩
     · have h1 : ¬ p.1 < a := by have := of_decide_eq_false hb; omega
       (repeat'(first|refine Z5 48 ?_|refine Z1 48 ?_|refine st ?_|(apply B<;>intro hb<;>try cases hb)))<;>try refine At.mk ?_
       refine Zs rfl ?_
       refine Z7 (ei rfl rfl) rfl rfl ?_
       (repeat'(first|refine Z5 52 ?_|refine Z1 52 ?_|refine st ?_|(apply B<;>intro hb<;>try cases hb)))<;>try refine At.mk ?_
       refine Zs rfl ?_
       refine Zg rfl rfl rfl (fun hb=>?_) (fun hb=>?_)
       · have h2 : p.1 = a := Int.ofNat_inj.1 (eq_of_beq hb)
         (repeat'(first|refine Z5 56 ?_|refine Z1 56 ?_|refine st ?_|(apply B<;>intro hb<;>try cases hb)))<;>try refine At.mk ?_
         refine Zs rfl ?_
         refine Z7 (ei rfl rfl) rfl rfl ?_
         (repeat'(first|refine Z5 60 ?_|refine Z1 60 ?_|refine st ?_|(apply B<;>intro hb<;>try cases hb)))<;>try refine At.mk ?_
         refine Zs rfl ?_
         refine Zg rfl rfl rfl (fun hb=>?_) (fun hb=>?_)
         · have h3 : p.2 < b := by have := of_decide_eq_true hb; omega
           (refine go ?_;repeat' (apply B<;>intro hb<;>try cases hb))
           exact⟨i+1,⟨by omega,more (.inr ⟨h2,h3⟩)⟩,by omega,⟨⟨rfl,hpl _⟩,⟨rfl,trivial⟩,⟨rfl,trivial⟩,⟨by show some _=some _; rw [hinc],trivial⟩,trivial⟩,trivial⟩
         · have h3 : ¬ p.2 < b := by have := of_decide_eq_false hb; omega
           (refine go ?_;repeat' (apply B<;>intro hb<;>try cases hb))
           exact⟨i,⟨hi,hlt,stop (by unfold ltP; show ¬ (p.1<a ∨ p.1=a∧p.2<b);omega)⟩,⟨⟨rfl,hpl _⟩,⟨rfl,trivial⟩,⟨rfl,trivial⟩,⟨rfl,trivial⟩,trivial⟩,trivial⟩
       · have h2 : ¬ p.1 = a := fun h => by rw [h] at hb; simp at hb
         (refine go ?_;repeat' (apply B<;>intro hb<;>try cases hb))
         exact⟨i,⟨hi,hlt,stop (by unfold ltP; show ¬ (p.1<a ∨ p.1=a∧p.2<b);omega)⟩,⟨⟨rfl,hpl _⟩,⟨rfl,trivial⟩,⟨rfl,trivial⟩,⟨rfl,trivial⟩,trivial⟩,trivial⟩
   · rw [hnl] at hb
     have hil:i=l.length:=by have:=of_decide_eq_false hb; omega
     clear hb
     (refine go ?_;repeat' (apply B<;>intro hb<;>try cases hb))
     exact⟨i,⟨hi,hlt,fun q hq=>by rw [hil,List.getElem?_eq_none (Nat.le_refl _)] at hq; cases hq⟩,⟨⟨rfl,hpl _⟩,⟨rfl,trivial⟩,⟨rfl,trivial⟩,⟨rfl,trivial⟩,trivial⟩,trivial⟩
 · rintro i ⟨hi, h1, h2⟩
   repeat' (first|refine Z5X [0,13] ?_|(first|refine st ?_|(apply B<;>intro hb<;>try cases hb)))
   refine Zbt rfl rfl rfl ?_
   (refine go ?_;repeat' (apply B<;>intro hb<;>try cases hb))
   have hm:∀ c∈l.map prC,c.length=2:=fun c hc=>by obtain⟨y,_,rfl⟩:=List.mem_map.1 hc; rfl
   have ht:(l.take i).length=i:=by rw [List.length_take]; omega
   refine Zu (Zhp (xs:=l) (g:=prC) rfl 0 i rfl rfl (Nat.zero_le _) hi (fun _=>rfl)) rfl rfl ?_
   rw [List.drop_zero]
   refine Zu (ZE (k:=0) (b:=⟨2,[]⟩) rfl rfl rfl (fun c hc=>hm c (by rw [List.map_take] at hc; exact List.mem_of_mem_take hc)) rfl (by
    show (0+((l.take i).map prC).length)*16≤_
    rw [Z2n];omega)) rfl rfl ?_
   (repeat'(first|refine Z5 75 ?_|refine Z1 75 ?_|refine st ?_|(apply B<;>intro hb<;>try cases hb)))<;>try refine At.mk ?_
   refine Zu (ZE (k:=4) (m := [prC (a,b)]) (fl:=true) (b:=⟨2,[]++(l.take i).map prC⟩) rfl rfl rfl (fun c hc=>by rw [List.mem_singleton] at hc; subst hc; rfl) rfl (by
    show (([]++(l.take i).map prC).length+1)*16≤_
    rw [List.nil_append,Z2n];omega)) rfl rfl ?_
   (repeat'(first|refine Z5 78 ?_|refine Z1 78 ?_|refine st ?_|(apply B<;>intro hb<;>try cases hb)))<;>try refine At.mk ?_
   refine Zu (Zhp (xs:=l) (g:=prC) rfl i l.length rfl (by show some ((l.map prC).length:Int)=_; rw [hnl]) hi (Nat.le_refl _) (fun _=>rfl)) rfl rfl ?_
   rw [List.take_length]
   have hap:([]++(l.take i).map prC) ++ [prC (a,b)]++(l.drop i).map prC=(l.take i++(a,b) :: l.drop i).map prC:=by simp
   have hby:(([]++(l.take i).map prC ++ [prC (a,b)]).length+((l.drop i).map prC).length)*16≤140737488355328:=by
    rw [List.nil_append,List.length_append,List.length_singleton,Z2n,Z2n,List.length_drop]; omega
   have hpp:pureLL ([]++(l.take i).map prC ++ [prC (a,b)]++(l.drop i).map prC):=by rw [hap]; exact Zi _
   refine Ze8 (k:=9) (m:=(l.drop i).map prC) (fl:=false) (b:=⟨2,[]++(l.take i).map prC ++ [prC (a,b)]⟩) rfl rfl rfl (fun c hc=>hm c (by rw [List.map_drop] at hc; exact List.mem_of_mem_drop hc)) rfl hby hpp rfl rfl ?_
   show dK _ _ _ _ (Env.upd _ 79 (.vec ([]++(l.take i).map prC ++ [prC (a,b)]++(l.drop i).map prC) false)) _ _
   rw [hap]
   (refine go ?_;repeat' (apply B<;>intro hb<;>try cases hb))
   exact Z2 rfl ⟨Zi _,trivial,trivial⟩ ⟨_,_,0,.inr ⟨hin,i,hi,h1,h2,rfl⟩,rfl⟩
def ordN (x i:Nat):Nat:=1+(i*(1+4*(x / 65536 % 2))+x / 131072 % 6) % 6
def gO (x i:Nat):List PV := [.val (.int .i64 (ordN x i:Nat))]
theorem ZaU (x i:Nat):pureLL ((List.range i).map (gO x)):=Z1P (fun i=>(show pureL (gO x i) from ⟨trivial,trivial⟩)) _
theorem ZbZ (x k:Nat) (hk:k<64):(x:Int).fdiv (2 ^ min ((k:Nat):Int).toNat IntKind.u64.bits)=((x / 2 ^ k:Nat):Int):=by
 rw [Int.toNat_natCast,show min k IntKind.u64.bits=k from Nat.min_eq_left (by show k≤64;omega),Int.fdiv_eq_ediv_of_nonneg _ (Int.le_of_lt (Int.pow_pos (by decide)))]
 exact_mod_cast rfl
theorem ZgQ (x i:Nat) (hx:x<18446744073709551616) (hi:i<6):IntKind.i64.wrap (1+(IntKind.i64.wrap (IntKind.i64.wrap ((i:Int)*IntKind.i64.wrap (1+IntKind.i64.wrap (4*IntKind.i64.wrap (((x:Int).fdiv (2 ^ min (Int.toNat 16) IntKind.u64.bits)).tmod 2))))+IntKind.i64.wrap (((x:Int).fdiv (2 ^ min (Int.toNat 17) IntKind.u64.bits)).tmod 6))).tmod 6)=(ordN x i:Nat):=by
 have e1:=ZbZ x 16 (by decide)
 have e2:=ZbZ x 17 (by decide)
 have h1:(((x / 2 ^ 16:Nat):Int)).tmod 2=((x / 65536 % 2:Nat):Int):=by rw [show (2:Int)=((2:Nat):Int) from rfl,Int.ofNat_tmod]
 have h2:(((x / 2 ^ 17:Nat):Int)).tmod 6=((x / 131072 % 6:Nat):Int):=by rw [show (6:Int)=((6:Nat):Int) from rfl,Int.ofNat_tmod]
 rw [show ((16:Nat):Int)=(16:Int) from rfl] at e1
 rw [show ((17:Nat):Int)=(17:Int) from rfl] at e2
 rw [e1,e2,h1,h2]
 unfold ordN
 have b2:x / 65536 % 2<2:=Nat.mod_lt _ (by decide)
 have b6:x / 131072 % 6<6:=Nat.mod_lt _ (by decide)
 generalize x / 65536 % 2=b at b2 ⊢
 generalize x / 131072 % 6=c at b6 ⊢
 have key:∀ b:Nat,b<2→∀ c:Nat,c<6→∀ i:Nat,i<6→IntKind.i64.wrap (1+(IntKind.i64.wrap (IntKind.i64.wrap ((i:Int)*IntKind.i64.wrap (1+IntKind.i64.wrap (4*IntKind.i64.wrap ((b:Nat):Int))))+IntKind.i64.wrap ((c:Nat):Int))).tmod 6)=((1+(i*(1+4*b)+c) % 6:Nat):Int):=by decide
 exact key b b2 c b6 i hi
theorem Z2M (x i:Nat):1≤ordN x i∧ordN x i≤6:=by
 unfold ordN
 have:=Nat.mod_lt (i*(1+4*(x / 65536 % 2))+x / 131072 % 6) (show 0<6 by decide)
 omega
def ordT (b c i:Nat):Nat:=1+(i*(1+4*b)+c) % 6
theorem Zfd:∀ b:Nat,b<2→∀ c:Nat,c<6→∀ i:Nat,i<6→((List.range 6).map (ordT b c)).idxOf (ordT b c i)=i:=by decide
def rankN (x r:Nat):Nat:=((List.range 6).map (ordT (x / 65536 % 2) (x / 131072 % 6))).idxOf r
theorem Z4Z (x:Nat) {i:Nat} (hi:i<6):rankN x (ordN x i)=i:=Zfd _ (Nat.mod_lt _ (by decide)) _ (Nat.mod_lt _ (by decide)) i hi
theorem Zfe (x:Nat) {i j:Nat} (hi:i<6) (hj:j<6) (hij:i≠j):ordN x i≠ordN x j:=fun h=>by
 have h1:=Z4Z x hi
 rw [h,Z4Z x hj] at h1
 exact hij h1.symm
structure LI (x:Nat) (l:List Pr) (k:Nat):Prop where
 asc:SortedP l
 len:l.length≤k
 mem:∀ p∈l,∃ a b,a<b∧b<6∧p=(ordN x a,ordN x b)
theorem LI.nil (x:Nat):LI x [] 0:=⟨List.Pairwise.nil,Nat.le_refl _,fun _ h=>by cases h⟩
theorem LI.mono {x:Nat} {l:List Pr} {k k':Nat} (h:LI x l k) (hk:k≤k'):LI x l k':=⟨h.asc,Nat.le_trans h.len hk,h.mem⟩
theorem LI.small {x:Nat} {l:List Pr} {k:Nat} (h:LI x l k):Small l:=fun p hp=>by
 obtain⟨a,b,_,_,rfl⟩:=h.mem p hp
 have h1:=Z2M x a
 have h2:=Z2M x b
 exact⟨by show ordN x a<64; omega,by show ordN x b<64; omega⟩
theorem LI.step {x:Nat} {l:List Pr} {k a b:Nat} (h:LI x l k) {l':List Pr} (hL:Linked l (ordN x a,ordN x b) l') (hab:a<b) (hb:b<6):LI x l' (k+1) :=
 ⟨hL.sorted h.asc,Nat.le_trans hL.len (Nat.succ_le_succ h.len),fun p hp=>(hL.mem p hp).elim (h.mem p) fun e=>⟨a,b,hab,hb,e⟩⟩
theorem LI.good {x:Nat} {l:List Pr} {k:Nat} (h:LI x l k):GoodL l:=by
 refine⟨h.asc,fun p hp=>?_,⟨rankN x,fun p hp=>?_⟩⟩
 · obtain ⟨a, b, hab, hb, rfl⟩ := h.mem p hp
   have h1:=Z2M x a
   have h2:=Z2M x b
   exact⟨h1.1,h1.2,h2.1,h2.2,Zfe x (by omega) hb (by omega)⟩
 · obtain ⟨a, b, hab, hb, rfl⟩ := h.mem p hp
   show rankN x (ordN x a)<rankN x (ordN x b)
   rw [Z4Z x (by omega),Z4Z x hb]
   exact hab
set_option maxHeartbeats 4000000 in
theorem ZaV (x:Nat) (hx:x<18446744073709551616):Spec Tryz.prog 57 [.val (.int .u64 (x:Int))] fun r=>∃ l fl,GoodL l∧r=.vec (l.map prC) fl:=by
 refine Z3 ok57 (Nat.le_of_ble_eq_true rfl) fun C hC=>?_
 repeat' (first|refine Zf (Z10 (k:=3) rfl 1 (by decide)) ?_|(first|refine st ?_|(apply B<;>intro hb<;>try cases hb)))
 refine Z1R hC (fun (i:Nat)=>i≤6) (fun i=>6-i) 1 (fun i => [(0,.val (.int .u64 (x:Int))),(3,.own 0),(4,.val (.int .i64 (i:Int)))]) (fun i => [(0,⟨1,(List.range i).map (gO x)⟩)]) (by omega) 0 (Nat.zero_le _) (fun i=>i) (fun _ _=>rfl) ZS ⟨⟨_,rfl,.pure _ trivial⟩,⟨_,rfl,.own 0 (by decide)⟩,⟨_,rfl,.pure _ trivial⟩,trivial⟩ ⟨⟨by omega,_,rfl,.same _ trivial⟩,trivial⟩ ?_
 intro i hi
 have hinc:IntKind.i64.wrap ((i:Int)+1)=((i+1:Nat):Int):=IntWalk.i64_in _ ⟨by omega,by omega⟩
 (repeat'(first|refine Z5 10 ?_|refine Z1 10 ?_|refine st ?_|(apply B<;>intro hb<;>try cases hb)))<;>try refine At.mk ?_
 refine Zg rfl rfl rfl (fun hb=>?_) (fun hb=>?_)
 · have hi6 : i < 6 := by have := of_decide_eq_true hb; omega
   clear hb
   (repeat'(first|refine Z5 28 ?_|refine Z1 28 ?_|refine st ?_|(apply B<;>intro hb<;>try cases hb)))<;>try refine At.mk ?_
   refine Zk rfl rfl rfl (ZgQ x i hx hi6) ?_
   (repeat'(first|refine Z5 30 ?_|refine Z1 30 ?_|refine st ?_|(apply B<;>intro hb<;>try cases hb)))<;>try refine At.mk ?_
   have happ:(List.range i).map (gO x) ++ [gO x i]=(List.range (i+1)).map (gO x):=by rw [List.range_succ,List.map_append]; rfl
   refine ZM (ZE (k:=0) (m := [gO x i]) (fl:=true) (b:=⟨1,(List.range i).map (gO x)⟩) rfl rfl rfl (fun c hc=>by rw [List.mem_singleton] at hc; subst hc; rfl) rfl (by
    show (((List.range i).map (gO x)).length+1)*8≤_
    rw [List.length_map,List.length_range];omega)) rfl rfl ?_
   simp only
   rw [happ]
   (refine go ?_;repeat' (apply B<;>intro hb<;>try cases hb))
   refine⟨i+1,mv 0 1,by omega,by omega,fun j hj=>absurd hj (Nat.not_lt_zero _),ZH rfl,⟨⟨_,rfl,.pure _ trivial⟩,⟨_,rfl,.own 0 (by decide)⟩,⟨_,by show some _=some _; rw [hinc],.pure _ trivial⟩,trivial⟩,⟨⟨by omega,_,rfl,.same _ (ZaU _ _)⟩,trivial⟩⟩
 · have hi6 : i = 6 := by have := of_decide_eq_false hb; omega
   subst hi6
   clear hb
   (repeat'(first|refine Z5 5 ?_|refine Z1 5 ?_|refine st ?_|(apply B<;>intro hb<;>try cases hb)))<;>try refine At.mk ?_
   refine Zf (Zn (k:=3) rfl rfl (ZaU x 6)) ?_
   (refine go ?_;repeat' (apply B<;>intro hb<;>try cases hb))
   have hgp:∀ D,innLL D ((List.range 6).map (gO x)):=fun D=>Ze (fun _ h=>h.elim) _ (ZaU x 6)
   refine Zo hC (fun (z:Nat×Nat×List Pr×Bool)=>z.1≤6∧z.2.1≤6*z.1∧LI x z.2.2.1 z.2.1) (fun z=>6-z.1) 0 (fun z => [(0,.val (.int .u64 (x:Int))),(3,.vec ((List.range 6).map (gO x)) false),(5,.vec (z.2.2.1.map prC) z.2.2.2),(6,.val (.int .i64 (z.2.1:Int))),(7,.val (.int .i64 (z.1:Int)))]) (fun _=>[]) (Nat.zero_le _) (0,0,[],true) ⟨Nat.zero_le _,Nat.zero_le _,LI.nil x⟩ ⟨⟨rfl,trivial⟩,⟨rfl,hgp _⟩,⟨rfl,trivial⟩,⟨rfl,trivial⟩,⟨rfl,trivial⟩,trivial⟩ trivial ?_
   rintro⟨i,k,l,fl⟩ ⟨hi,hk,hl⟩
   simp only at hi hk hl
   have hinc:IntKind.i64.wrap ((i:Int)+1)=((i+1:Nat):Int):=IntWalk.i64_in _ ⟨by omega,by omega⟩
   (repeat'(first|refine Z5 32 ?_|refine Z1 32 ?_|refine st ?_|(apply B<;>intro hb<;>try cases hb)))<;>try refine At.mk ?_
   refine Zg rfl rfl rfl (fun hb=>?_) (fun hb=>?_)
   · have hi6 : i < 6 := by have := of_decide_eq_true hb; omega
     clear hb
     (refine go ?_;repeat' (apply B<;>intro hb<;>try cases hb))
     refine Zo hC (fun (z:Nat×Nat×List Pr×Bool)=>i+1≤z.1∧z.1≤6∧z.2.1≤6*i+z.1∧LI x z.2.2.1 z.2.1) (fun z=>6-z.1) 0 (fun z => [(0,.val (.int .u64 (x:Int))),(3,.vec ((List.range 6).map (gO x)) false),(5,.vec (z.2.2.1.map prC) z.2.2.2),(6,.val (.int .i64 (z.2.1:Int))),(7,.val (.int .i64 (i:Int))),(8,.val (.int .i64 (z.1:Int)))]) (fun _=>[]) (Nat.zero_le _) (i+1,k,l,fl) ⟨Nat.le_refl _,by simp only; omega,by simp only; omega,hl⟩ ⟨⟨rfl,trivial⟩,⟨rfl,hgp _⟩,⟨rfl,Ze (fun _ h=>h.elim) _ (Zi l)⟩,⟨rfl,trivial⟩,⟨rfl,trivial⟩,⟨by show some _=some _; rw [hinc],trivial⟩,trivial⟩ trivial ?_
     clear hk hl
     rintro⟨j,k,l,fl⟩ ⟨hj1,hj,hk,hl⟩
     simp only at hj1 hj hk hl
     have hjnc:IntKind.i64.wrap ((j:Int)+1)=((j+1:Nat):Int):=IntWalk.i64_in _ ⟨by omega,by omega⟩
     have hknc:IntKind.i64.wrap ((k:Int)+1)=((k+1:Nat):Int):=IntWalk.i64_in _ ⟨by omega,by omega⟩
     have hpl:∀ D,innLL D (l.map prC):=fun D=>Ze (fun _ h=>h.elim) _ (Zi l)
     (repeat'(first|refine Z5 38 ?_|refine Z1 38 ?_|refine st ?_|(apply B<;>intro hb<;>try cases hb)))<;>try refine At.mk ?_
     refine Zg rfl rfl rfl (fun hb=>?_) (fun hb=>?_)
     · have hj6 : j < 6 := by have := of_decide_eq_true hb; omega
       clear hb
       (repeat'(first|refine Z5 45 ?_|refine Z1 45 ?_|refine st ?_|(apply B<;>intro hb<;>try cases hb)))<;>try refine At.mk ?_
       refine Zg rfl rfl rfl (fun hb=>?_) (fun hb=>?_)
       · clear hb
         (repeat'(first|refine Z5 50 ?_|refine Z1 50 ?_|refine st ?_|(apply B<;>intro hb<;>try cases hb)))<;>try refine At.mk ?_
         have hr6:∀ {a:Nat},a<6→a<(List.range 6).length:=fun h=>by rw [List.length_range]; exact h
         refine Zu (Zl (xs:=List.range 6) (g:=gO x) rfl rfl i rfl (hr6 hi6) rfl) rfl rfl ?_
         (repeat'(first|refine Z5 54 ?_|refine Z1 54 ?_|refine st ?_|(apply B<;>intro hb<;>try cases hb)))<;>try refine At.mk ?_
         refine Zu (Zl (xs:=List.range 6) (g:=gO x) rfl rfl j rfl (hr6 hj6) rfl) rfl rfl ?_
         have hoi:=Z2M x i
         have hoj:=Z2M x j
         have hs := Zdj l fl hl.small (ordN x ((List.range 6)[i]'(hr6 hi6))) (ordN x ((List.range 6)[j]'(hr6 hj6))) (by rw [List.getElem_range];omega) (by rw [List.getElem_range];omega) (by rw [List.getElem_range,List.getElem_range]; exact Zfe x hi6 hj6 (by omega)) (by have := hl.len;omega)
         (repeat'(first|refine Z5 56 ?_|refine Z1 56 ?_|refine st ?_|(apply B<;>intro hb<;>try cases hb)))<;>try refine At.mk ?_
         refine Z59 rfl rfl (.inl rfl) hs ⟨Zi l,trivial,trivial,trivial⟩ ?_
         rintro r ⟨l',fl',er,hL,rfl⟩
         rw [List.getElem_range,List.getElem_range] at hL
         (refine go ?_;repeat' (apply B<;>intro hb<;>try cases hb))
         exact⟨(j+1,k+1,l',fl'),⟨by simp only; omega,by simp only; omega,by simp only; omega,hl.step hL (by omega) hj6⟩,by simp only; omega,⟨⟨rfl,trivial⟩,⟨rfl,hgp _⟩,⟨rfl,Ze (fun _ h=>h.elim) _ (Zi l')⟩,⟨by show some _=some _; rw [hknc],trivial⟩,⟨rfl,trivial⟩,⟨by show some _=some _; rw [hjnc],trivial⟩,trivial⟩,trivial⟩
       · clear hb
         (refine go ?_;repeat' (apply B<;>intro hb<;>try cases hb))
         exact⟨(j+1,k+1,l,fl),⟨by simp only; omega,by simp only; omega,by simp only; omega,hl.mono (Nat.le_succ k)⟩,by simp only; omega,⟨⟨rfl,trivial⟩,⟨rfl,hgp _⟩,⟨rfl,hpl _⟩,⟨by show some _=some _; rw [hknc],trivial⟩,⟨rfl,trivial⟩,⟨by show some _=some _; rw [hjnc],trivial⟩,trivial⟩,trivial⟩
     · have hj6 : j = 6 := by have := of_decide_eq_false hb; omega
       clear hb
       (refine go ?_;repeat' (apply B<;>intro hb<;>try cases hb))
       exact⟨(i+1,k,l,fl),⟨by simp only; omega,by simp only; omega,hl⟩,by simp only; omega,⟨⟨rfl,trivial⟩,⟨rfl,hgp _⟩,⟨rfl,hpl _⟩,⟨rfl,trivial⟩,⟨by show some _=some _; rw [hinc],trivial⟩,trivial⟩,trivial⟩
   · clear hb
     (refine go ?_;repeat' (apply B<;>intro hb<;>try cases hb))
     exact Z2 rfl (Zi l) ⟨l,fl,hl.good,rfl⟩
theorem Z9x (c:Cu) (hc:Ok64 c):Spec Tryz.prog 126 [.agg (raC c)] (· = .val (.bool (emC c))):=by
 refine Z3 ok126 (Nat.le_of_ble_eq_true rfl) fun C hC=>?_
 have hand:=bits_and_u64_nat c.1 c.2 hc.1 hc.2
 refine Zj ?_
 refine Z9 ?_
 refine Z4 rfl rfl rfl ?_
 (refine go ?_;repeat' (apply B<;>intro hb<;>try cases hb))
 · rw [hand] at hb
   have h:c.1 &&& c.2≠0:=fun h=>by rw [h] at hb; cases hb
   exact Z2 rfl trivial (boolE (by rw [emC,decide_eq_true h]))
 · rw [hand] at hb
   have h:¬ c.1 &&& c.2≠0:=fun h=>by
    simp at hb
    exact h hb
   exact Z2 rfl trivial (boolE (by rw [emC,decide_eq_false h]))
theorem Zff (a s:Nat):s &&& a=a↔a ||| s=s:=by
 constructor
 · intro h
   refine Nat.eq_of_testBit_eq fun i=>?_
   have:=congrArg (·.testBit i) h
   simp only [Nat.testBit_and] at this
   rw [Nat.testBit_or]
   cases h1:a.testBit i<;>cases h2:s.testBit i<;>simp_all
 · intro h
   refine Nat.eq_of_testBit_eq fun i=>?_
   have:=congrArg (·.testBit i) h
   simp only [Nat.testBit_or] at this
   rw [Nat.testBit_and]
   cases h1:a.testBit i<;>cases h2:s.testBit i<;>simp_all
theorem Z5z (c:Cu) (s:Nat) (hc:Ok64 c) (hs:s<18446744073709551616):Spec Tryz.prog 91 [.agg (raC c),.val (.int .u64 (s:Int))] (· = .val (.bool (hoC c s))):=by
 refine Z3 ok91 (Nat.le_of_ble_eq_true rfl) fun C hC=>?_
 have h1:=bits_and_u64_nat s c.1 hs hc.1
 have h2:=bits_and_u64_nat s c.2 hs hc.2
 have e1:(((s &&& c.1:Nat):Int) == (c.1:Int))=decide (c.1 ||| s=s):=by
  rw [Bool.eq_iff_iff,beq_iff_eq,decide_eq_true_iff,← Zff]; omega
 have e2:(((s &&& c.2:Nat):Int) == 0) = !decide (c.2 &&& s≠0):=by
  rw [Nat.and_comm s c.2,Bool.eq_iff_iff,beq_iff_eq]; simp
 refine Zj ?_
 refine Z9 ?_
 refine Z4 rfl rfl rfl ?_
 (refine go ?_;repeat' (apply B<;>intro hb<;>try cases hb))
 · rw [h1, e1] at *
   rw [h2,e2] at hb
   exact Z2 rfl trivial (boolE (by unfold hoC; simp_all))
 · rw [h1, e1] at *
   rw [h2,e2] at hb
   exact Z2 rfl trivial (boolE (by unfold hoC; simp_all))
 · rw [h1, e1] at hb
   exact Z2 rfl trivial (boolE (by unfold hoC; simp_all))
abbrev RawX:=Nat×Nat×Bool
def rawC (x:RawX):List PV := [.val (.int .u8 (x.1:Int)),.val (.int .u8 (x.2.1:Int)),.val (.bool x.2.2)]
theorem Zfg (x:RawX):pureL (rawC x):=⟨trivial,trivial,trivial,trivial⟩
def RawXok (x:RawX):Prop:=x.1<256∧x.2.1<256
def makC (a b:Nat):Cu:=(2*(a &&& b &&& 63),2*(a &&& 63 &&& (255-b)))
def fitC (x:RawX):Cu:=if x.2.2=true then (x.1 &&& 254,x.2.1 &&& 254) else makC x.1 x.2.1
theorem Z6F (a b:Nat) (ha:a<256) (hb:b<256):bits .and .u8 (a:Int) (b:Int)=((a &&& b:Nat):Int):=by
 have h1:(BitVec.ofInt 8 (a:Int)).toNat=a:=by rw [BitVec.ofInt_natCast,BitVec.toNat_ofNat]; exact Nat.mod_eq_of_lt (by omega)
 have h2:(BitVec.ofInt 8 (b:Int)).toNat=b:=by rw [BitVec.ofInt_natCast,BitVec.toNat_ofNat]; exact Nat.mod_eq_of_lt (by omega)
 show IntKind.u8.wrap ((BitVec.ofInt 8 (a:Int) &&& BitVec.ofInt 8 (b:Int)).toNat:Int)=_
 rw [BitVec.toNat_and,h1,h2]
 have:a &&& b≤a:=Nat.and_le_left
 exact IntWalk.u8_in _ ⟨by omega,by omega⟩
theorem Zc0 (a:Nat) (ha:a<256):IntKind.u64.wrap (IntKind.u64.wrap (a:Int)*2 ^ (min (1:Int).toNat IntKind.u64.bits))=((2*a:Nat):Int):=by
 rw [IntWalk.u64_in (a:Int) ⟨by omega,by omega⟩]
 show IntKind.u64.wrap ((a:Int)*2)=_
 rw [IntWalk.u64_in _ ⟨by omega,by omega⟩]
 omega
theorem Z9y (a b:Nat) (ha:a<256) (hb:b<256):Spec Tryz.prog 89 [.val (.int .u8 (a:Int)),.val (.int .u8 (b:Int))] (· = .agg (raC (makC a b))):=by
 have e1:a &&& b≤a:=Nat.and_le_left
 have e2:a &&& 63≤a:=Nat.and_le_left
 have e3:a &&& b &&& 63≤a &&& b:=Nat.and_le_left
 have e4:a &&& 63 &&& (255-b)≤a &&& 63:=Nat.and_le_left
 have hs:IntKind.u8.wrap (255-(b:Int))=((255-b:Nat):Int):=by rw [IntWalk.u8_in _ ⟨by omega,by omega⟩]; omega
 have hx:IntKind.u64.wrap (IntKind.u64.wrap (bits .and .u8 (bits .and .u8 (a:Int) (b:Int)) 63)*2 ^ (min (1:Int).toNat IntKind.u64.bits))=((2*(a &&& b &&& 63):Nat):Int):=by
  rw [Z6F a b ha hb,show (63:Int)=((63:Nat):Int) from rfl,Z6F _ 63 (by omega) (by decide)]
  exact Zc0 _ (by omega)
 have hy:IntKind.u64.wrap (IntKind.u64.wrap (bits .and .u8 (bits .and .u8 (a:Int) 63) (IntKind.u8.wrap (255-(b:Int))))*2 ^ (min (1:Int).toNat IntKind.u64.bits))=((2*(a &&& 63 &&& (255-b)):Nat):Int):=by
  rw [hs,show (63:Int)=((63:Nat):Int) from rfl,Z6F a 63 ha (by decide),Z6F _ _ (by omega) (by omega)]
  exact Zc0 _ (by omega)
 refine Z3 ok89 (Nat.le_of_ble_eq_true rfl) fun C hC=>?_
 (refine go ?_;repeat' (apply B<;>intro hb<;>try cases hb))
 refine Z2 rfl ⟨trivial,trivial,trivial⟩ ?_
 show PV.agg [.val (.int .u64 _),.val (.int .u64 _)]=PV.agg [.val (.int .u64 _),.val (.int .u64 _)]
 rw [hx,hy]
 rfl
theorem Zdk (x:RawX) (hx:RawXok x):Spec Tryz.prog 40 [.agg (rawC x)] (· = .agg (raC (fitC x))):=by
 obtain⟨a,b,o⟩:=x
 obtain⟨ha,hb⟩:=hx
 have e1:a &&& 254≤a:=Nat.and_le_left
 have e2:b &&& 254≤b:=Nat.and_le_left
 dsimp only at ha hb
 have w1:IntKind.u64.wrap (bits .and .u8 (a:Int) 254)=((a &&& 254:Nat):Int):=by
  rw [show (254:Int)=((254:Nat):Int) from rfl,Z6F a 254 ha (by decide)]; exact IntWalk.u64_in _ ⟨by omega,by omega⟩
 have w2:IntKind.u64.wrap (bits .and .u8 (b:Int) 254)=((b &&& 254:Nat):Int):=by
  rw [show (254:Int)=((254:Nat):Int) from rfl,Z6F b 254 hb (by decide)]; exact IntWalk.u64_in _ ⟨by omega,by omega⟩
 refine Z3 ok40 (Nat.le_of_ble_eq_true rfl) fun C hC=>?_
 refine Zj ?_
 refine Z9 ?_
 refine Z4 rfl rfl rfl ?_
 cases o
 · (refine go ?_;repeat' (apply B<;>intro hb<;>try cases hb))
   refine Z6 (Z9y a b ha hb) rfl rfl rfl ⟨trivial,trivial,trivial⟩ rfl ?_
   (refine go ?_;repeat' (apply B<;>intro hb<;>try cases hb))
   exact Z2 rfl (Z1m _) rfl
 · (refine go ?_;repeat' (apply B<;>intro hb<;>try cases hb))
   refine Z2 rfl ⟨trivial,trivial,trivial⟩ ?_
   show PV.agg [.val (.int .u64 _),.val (.int .u64 _)]=PV.agg [.val (.int .u64 _),.val (.int .u64 _)]
   rw [w1,w2]
   rfl
end Go.Proofs.YtjpkfigmmmngnaaGreatDoor
namespace Go.Proofs.YtjpkfigmmmngnaaGreatDoor
open Go.RowKit
theorem orSub {a b:Nat}:a ||| b=b↔∀ i,a.testBit i=true→b.testBit i=true:=by
 constructor
 · intro h i hi
   rw [← h,Nat.testBit_or,hi,Bool.true_or]
 · intro h
   refine Nat.eq_of_testBit_eq fun i=>?_
   rw [Nat.testBit_or]
   cases hi:a.testBit i with
   | true=>rw [h i hi]; rfl
   | false=>rw [Bool.false_or]
noncomputable def sen (l:List Pr) (r:Nat):Nat:=abv l r ||| 2 ^ r
theorem Z6G {l:List Pr} (hl:Small l) (r a:Nat):(sen l r).testBit a=true↔Up l a r ∨ a=r:=by
 unfold sen
 rw [Nat.testBit_or,Bool.or_eq_true,Z6B hl,Nat.testBit_two_pow,decide_eq_true_eq,eq_comm (a:=r)]
theorem ZhP {l:List Pr} (hl:Small l) {s:Nat} (hs:s<18446744073709551616) (r:Nat):(clo l s).testBit r=true↔∃ a,s.testBit a=true∧1≤a∧(sen l r).testBit a=true:=by
 rw [Z6E s r hs]
 constructor
 · rintro ⟨a, h1, h2, h3⟩
   exact⟨a,h1,h2,(Z6G hl r a).2 ((ZaQ hl a r).1 h3 |>.imp (fun h=>h) fun h=>h.symm)⟩
 · rintro ⟨a, h1, h2, h3⟩
   exact⟨a,h1,h2,(ZaQ hl a r).2 ((Z6G hl r a).1 h3 |>.imp (fun h=>h) fun h=>h.symm)⟩
def subM:List Nat→Nat→Nat
 | [],_=>0
 | r :: l,m=>(if m.testBit 0 then 2 ^ r else 0) ||| subM l (m / 2)
theorem Z9z:∀ (l:List Nat) (r m:Nat),subM (l ++ [r]) m=subM l m ||| (if m.testBit l.length then 2 ^ r else 0)
 | [],r,m=>by simp [subM]
 | a :: l, r, m => by
   show (if m.testBit 0 then 2 ^ a else 0) ||| subM (l ++ [r]) (m / 2)=(if m.testBit 0 then 2 ^ a else 0) ||| subM l (m / 2) ||| (if m.testBit (l.length+1) then 2 ^ r else 0)
   rw [Z9z l r (m / 2),Nat.or_assoc,Nat.testBit_succ]
theorem Z50:∀ (l:List Nat) (m i:Nat),(subM l m).testBit i=true↔∃ k,∃ h:k<l.length,l[k]=i∧m.testBit k=true
 | [],m,i=>by simp [subM]
 | a :: l, m, i => by
   show ((if m.testBit 0 then 2 ^ a else 0) ||| subM l (m / 2)).testBit i=true↔_
   rw [Nat.testBit_or,Bool.or_eq_true,Z50 l (m / 2) i]
   constructor
   · rintro (h | ⟨k, hk, h1, h2⟩)
     · by_cases hm : m.testBit 0 = true
       · rw [if_pos hm, Nat.testBit_two_pow, decide_eq_true_eq] at h
         exact⟨0,by simp,h,hm⟩
       · rw [if_neg hm,Nat.zero_testBit] at h; cases h
     · exact⟨k+1,by simp only [List.length_cons]; omega,h1,by rw [Nat.testBit_succ]; exact h2⟩
   · rintro ⟨k, hk, h1, h2⟩
     match k,hk,h1,h2 with
     | 0, _, h1, h2 =>
       left
       rw [if_pos h2,Nat.testBit_two_pow,decide_eq_true_eq]; exact h1
     | k + 1, hk, h1, h2 =>
       right
       exact⟨k,by simp only [List.length_cons] at hk; omega,h1,by rw [← Nat.testBit_succ]; exact h2⟩
theorem Zc1 {l:List Nat} (hl:l.Nodup) (m:Nat) {k:Nat} (hk:k<l.length):(subM l m).testBit l[k]=m.testBit k:=by
 rw [Bool.eq_iff_iff,Z50]
 constructor
 · rintro ⟨j, hj, h1, h2⟩
   obtain rfl:j=k:=by
    have hp:=List.pairwise_iff_getElem.1 (List.nodup_iff_pairwise_ne.1 hl)
    rcases Nat.lt_trichotomy j k with h|h|h
    · exact absurd h1 (hp j k hj hk h)
    · exact h
    · exact absurd h1.symm (hp k j hk hj h)
   exact h2
 · exact fun h=>⟨k,hk,rfl,h⟩
theorem ZgR {l:List Nat} (hl:l.Nodup) {m m':Nat} (h1:m<2 ^ l.length) (h2:m'<2 ^ l.length) (h:subM l m=subM l m'):m=m':=by
 refine Nat.eq_of_testBit_eq fun k=>?_
 by_cases hk:k<l.length
 · rw [← Zc1 hl m hk,← Zc1 hl m' hk,h]
 · have hp : 2 ^ l.length ≤ 2 ^ k := Nat.pow_le_pow_right (by decide) (by omega)
   rw [Nat.testBit_lt_two_pow (Nat.lt_of_lt_of_le h1 hp),Nat.testBit_lt_two_pow (Nat.lt_of_lt_of_le h2 hp)]
theorem Z6H:∀ (l:List Nat) (s:Nat),(∀ i,s.testBit i=true→i∈l)→∃ m,m<2 ^ l.length∧subM l m=s
 | [], s, h => ⟨0, by decide, Nat.eq_of_testBit_eq fun i => by
   rw [show subM [] 0=0 from rfl,Nat.zero_testBit]
   exact (Bool.eq_false_iff.2 fun hb=>by cases h i hb).symm⟩
 | a :: l, s, h => by
   by_cases ha:a∈l
   · obtain ⟨m, h1, h2⟩ := Z6H l s fun i hi => by
      rcases List.mem_cons.1 (h i hi) with rfl|h3
      · exact ha
      · exact h3
     refine⟨2*m,by rw [List.length_cons,Nat.pow_succ]; omega,?_⟩
     show (if (2*m).testBit 0 then 2 ^ a else 0) ||| subM l (2*m / 2)=s
     rw [show 2*m / 2=m by omega,h2,if_neg (by rw [Nat.testBit_zero]; simp),Nat.zero_or]
   · have hex : ∀ i, (s ^^^ (if s.testBit a then 2 ^ a else 0)).testBit i = (s.testBit i && !decide (a = i)) := fun i => by
      rw [Nat.testBit_xor]
      by_cases hsa:s.testBit a=true
      · rw [if_pos hsa, Nat.testBit_two_pow]
        by_cases hi:a=i
        · subst hi; rw [hsa]; simp
        · rw [decide_eq_false hi]; simp
      · rw [if_neg hsa, Nat.zero_testBit]
        by_cases hi:a=i
        · subst hi; rw [Bool.eq_false_iff.2 hsa]; simp
        · rw [decide_eq_false hi]; simp
     obtain⟨m,h1,h2⟩:=Z6H l (s ^^^ (if s.testBit a then 2 ^ a else 0)) fun i hi=>by
      rw [hex,Bool.and_eq_true] at hi
      rcases List.mem_cons.1 (h i hi.1) with rfl|h3
      · simp at hi
      · exact h3
     refine⟨2*m+(if s.testBit a then 1 else 0),by rw [List.length_cons,Nat.pow_succ]; split<;>omega,?_⟩
     show (if (2*m+(if s.testBit a then 1 else 0)).testBit 0 then 2 ^ a else 0) ||| subM l ((2*m+(if s.testBit a then 1 else 0)) / 2)=s
     have hd:(2*m+(if s.testBit a then 1 else 0)) / 2=m:=by split<;>omega
     have ht:(2*m+(if s.testBit a then 1 else 0)).testBit 0=s.testBit a:=by
      rw [Nat.testBit_zero]
      cases s.testBit a
      · simp
      · rw [if_pos rfl,show (2*m+1) % 2=1 by omega]; rfl
     rw [hd,ht,h2]
     refine Nat.eq_of_testBit_eq fun i=>?_
     rw [Nat.testBit_or,hex]
     by_cases hi:a=i
     · subst hi
       cases hsa:s.testBit a
       · simp
       · rw [if_pos rfl,Nat.testBit_two_pow]; simp
     · rw [decide_eq_false hi]
       cases hsa:s.testBit a
       · simp
       · rw [if_pos rfl,Nat.testBit_two_pow,decide_eq_false hi]; simp
structure Mins (S:Nat→Prop) (good:Nat→Bool) (out:List Nat):Prop where
 nd:out.Nodup
 iff:∀ s,s∈out↔S s∧good s=true∧∀ s',S s'→good s'=true→popK 64 s≤popK 64 s'
theorem Z6I {S:Nat→Prop} {good:Nat→Bool} (f:Nat→Nat):∀ (k:Nat) (s:Nat),f s≤k→S s→good s=true→∃ s,S s∧good s=true∧∀ s',S s'→good s'=true→f s≤f s'
 | 0,s,hk,h1,h2=>⟨s,h1,h2,fun s' _ _=>by omega⟩
 | k + 1, s, hk, h1, h2 => by
   by_cases h:∃ s',S s'∧good s'=true∧f s'<f s
   · obtain ⟨s', h3, h4, h5⟩ := h
     exact Z6I f k s' (by omega) h3 h4
   · exact⟨s,h1,h2,fun s' h3 h4=>Nat.le_of_not_lt fun h5=>h ⟨s',h3,h4,h5⟩⟩
theorem Mins.nil_iff {S:Nat→Prop} {good:Nat→Bool} {out:List Nat} (h:Mins S good out):out = []↔∀ s,S s→good s=false:=by
 constructor
 · intro he s hs
   refine Bool.eq_false_iff.2 fun hg=>?_
   obtain⟨m,h1,h2,h3⟩:=Z6I (S:=S) (good:=good) (popK 64) (popK 64 s) s (Nat.le_refl _) hs hg
   have:=(h.iff m).2 ⟨h1,h2,h3⟩
   rw [he] at this; cases this
 · intro hn
   refine List.eq_nil_iff_forall_not_mem.2 fun s hs=>?_
   obtain⟨h1,h2,_⟩:=(h.iff s).1 hs
   rw [hn s h1] at h2; cases h2
def smStep (good:Nat→Bool) (out:List Nat) (s:Nat):List Nat :=
 match out with
 | []=>if good s then [s] else []
 | a :: r=>if popK 64 a<popK 64 s then a :: r else if good s then (if popK 64 s<popK 64 a then [s] else a :: r ++ [s]) else a :: r
theorem Mins.step {S:Nat→Prop} {good:Nat→Bool} {out:List Nat} (h:Mins S good out) {s:Nat} (hs:¬ S s):Mins (fun x=>S x ∨ x=s) good (smStep good out s):=by
 have same:good s=false→Mins (fun x=>S x ∨ x=s) good out:=fun hg=>⟨h.nd,fun x=>by
  rw [h.iff x]
  constructor
  · rintro ⟨h1, h2, h3⟩
    refine⟨.inl h1,h2,fun s' hs' hg'=>?_⟩
    rcases hs' with hs' | rfl
    · exact h3 s' hs' hg'
    · rw [hg] at hg'; cases hg'
  · rintro ⟨h1, h2, h3⟩
    rcases h1 with h1|rfl
    · exact⟨h1,h2,fun s' hs' hg'=>h3 s' (.inl hs') hg'⟩
    · rw [hg] at h2; cases h2⟩
 match out,h,same with
 | [], h, same =>
   show Mins _ _ (if good s then [s] else [])
   cases hg:good s with
   | false=>exact same hg
   | true =>
     have hn:=h.nil_iff.1 rfl
     refine⟨by simp,fun x=>?_⟩
     rw [if_pos rfl,List.mem_singleton]
     constructor
     · rintro rfl
       refine⟨.inr rfl,hg,fun s' hs' hg'=>?_⟩
       rcases hs' with hs' | rfl
       · rw [hn s' hs'] at hg'; cases hg'
       · exact Nat.le_refl _
     · rintro ⟨h1 | h1, h2, h3⟩
       · rw [hn x h1] at h2; cases h2
       · exact h1
 | a :: r, h, same =>
   show Mins _ _ (if popK 64 a<popK 64 s then a :: r else if good s then (if popK 64 s<popK 64 a then [s] else a :: r ++ [s]) else a :: r)
   obtain⟨ha1,ha2,ha3⟩:=(h.iff a).1 (List.mem_cons_self ..)
   by_cases h1:popK 64 a<popK 64 s
   · rw [if_pos h1]
     refine⟨h.nd,fun x=>?_⟩
     rw [h.iff x]
     constructor
     · rintro ⟨h4, h5, h6⟩
       refine⟨.inl h4,h5,fun s' hs' hg'=>?_⟩
       rcases hs' with hs' | rfl
       · exact h6 s' hs' hg'
       · have:=h6 a ha1 ha2; omega
     · rintro ⟨h4 | rfl, h5, h6⟩
       · exact⟨h4,h5,fun s' hs' hg'=>h6 s' (.inl hs') hg'⟩
       · have:=h6 a (.inl ha1) ha2; omega
   rw [if_neg h1]
   cases hg:good s with
   | false=>exact same hg
   | true =>
     rw [if_pos rfl]
     by_cases h2:popK 64 s<popK 64 a
     · rw [if_pos h2]
       refine⟨by simp,fun x=>?_⟩
       rw [List.mem_singleton]
       constructor
       · rintro rfl
         refine⟨.inr rfl,hg,fun s' hs' hg'=>?_⟩
         rcases hs' with hs' | rfl
         · have:=ha3 s' hs' hg'; omega
         · exact Nat.le_refl _
       · rintro ⟨h4 | h4, h5, h6⟩
         · have := ha3 x h4 h5
           have:=h6 s (.inr rfl) hg
           omega
         · exact h4
     · rw [if_neg h2]
       have hsn:s ∉ a :: r:=fun hm=>hs ((h.iff s).1 hm).1
       refine⟨List.nodup_append.2 ⟨h.nd,by simp,fun x hx y hy=>by rw [List.mem_singleton] at hy; subst hy; exact fun e=>hsn (e▸hx)⟩,fun x=>?_⟩
       rw [List.mem_append,List.mem_singleton,h.iff x]
       constructor
       · rintro (⟨h4, h5, h6⟩ | rfl)
         · refine ⟨.inl h4, h5, fun s' hs' hg' => ?_⟩
           rcases hs' with hs' | rfl
           · exact h6 s' hs' hg'
           · have:=h6 a ha1 ha2; omega
         · refine ⟨.inr rfl, hg, fun s' hs' hg' => ?_⟩
           rcases hs' with hs' | rfl
           · have:=ha3 s' hs' hg'; omega
           · exact Nat.le_refl _
       · rintro ⟨h4 | rfl, h5, h6⟩
         · exact .inl ⟨h4,h5,fun s' hs' hg'=>h6 s' (.inl hs') hg'⟩
         · exact .inr rfl
theorem Mins.congr {S S':Nat→Prop} {good:Nat→Bool} {out:List Nat} (h:Mins S good out) (hS:∀ s,S s↔S' s):Mins S' good out:=⟨h.nd,fun s=>by
 rw [h.iff s,hS s]
 exact⟨fun ⟨a,b,c⟩=>⟨a,b,fun s' hs=>c s' ((hS s').2 hs)⟩,fun ⟨a,b,c⟩=>⟨a,b,fun s' hs=>c s' ((hS s').1 hs)⟩⟩⟩
theorem Mins.perm {S:Nat→Prop} {good:Nat→Bool} {out out':List Nat} (h:Mins S good out) (hp:out'.Perm out):Mins S good out':=⟨hp.nodup_iff.2 h.nd,fun s=>by rw [hp.mem_iff,h.iff s]⟩
theorem Mins.begin (good:Nat→Bool):Mins (fun _=>False) good []:=⟨List.nodup_nil,fun s=>by simp⟩
def tried (l:List Nat) (m:Nat) (s:Nat):Prop:=∃ j,j<m∧subM l j=s
theorem Zfh {l:List Nat} (hl:l.Nodup) {m:Nat} (hm:m<2 ^ l.length):¬ tried l m (subM l m):=by
 rintro⟨j,hj,h⟩
 have:=ZgR hl (by omega) hm h
 omega
theorem Zdl (l:List Nat) (m s:Nat):tried l (m+1) s↔tried l m s ∨ s=subM l m:=by
 constructor
 · rintro ⟨j, hj, h⟩
   by_cases he:j=m
   · subst he; exact .inr h.symm
   · exact .inl ⟨j,by omega,h⟩
 · rintro (⟨j, hj, h⟩ | h)
   · exact⟨j,by omega,h⟩
   · exact⟨m,Nat.lt_succ_self m,h.symm⟩
theorem Zfi {E:Nat} (hE:E<18446744073709551616) (s:Nat):tried (mem E) (2 ^ (mem E).length) s↔s ||| E=E:=by
 constructor
 · rintro ⟨j, _, rfl⟩
   refine orSub.2 fun i hi=>?_
   obtain⟨k,hk,h1,_⟩:=(Z50 _ _ _).1 hi
   exact (Z1O hE).1 (h1▸List.getElem_mem hk)
 · intro h
   exact Z6H (mem E) s fun i hi=>(Z1O hE).2 (orSub.1 h i hi)
def SortedK (l:List Nat):Prop:=l.Pairwise fun a b=>key a≤key b
theorem Z5A:∀ {l m:List Nat},(∀ a∈l,a<18446744073709551616)→SortedK l→SortedK m→l.Perm m→l=m
 | [],m,_,_,_,h=>(List.Perm.nil_eq h)
 | a :: l,[],_,_,_,h=>by have:=h.length_eq; simp at this
 | a :: l, b :: m, hx, h1, h2, h => by
   have h1':=List.pairwise_cons.1 h1
   have h2':=List.pairwise_cons.1 h2
   have hab:a=b:=by
    rcases List.mem_cons.1 (h.mem_iff.1 (List.mem_cons_self (a:=a) (l:=l))) with e|ha
    · exact e
    rcases List.mem_cons.1 (h.mem_iff.2 (List.mem_cons_self (a:=b) (l:=m))) with e|hb
    · exact e.symm
    have x1:=h1'.1 b hb
    have x2:=h2'.1 a ha
    exact Zao (hx a (List.mem_cons_self ..)) (hx b (List.mem_cons_of_mem _ hb)) (by omega)
   subst hab
   rw [Z5A (fun x hm=>hx x (List.mem_cons_of_mem _ hm)) h1'.2 h2'.2 (List.Perm.cons_inv h)]
theorem Zfj {x fr n:Nat} (h:x ||| fr=fr) (hf:fr<n):x<n:=Nat.lt_of_le_of_lt (by rw [← h]; exact Nat.left_le_or) hf
theorem Z9A {S:Nat→Prop} {good:Nat→Bool} {l m:List Nat} (h1:Mins S good l) (h2:Mins S good m) (hs:∀ s,S s→s<18446744073709551616) (s1:SortedK l) (s2:SortedK m):l=m :=
 Z5A (fun a ha=>hs a ((h1.iff a).1 ha).1) s1 s2 ((List.perm_ext_iff_of_nodup h1.nd h2.nd).2 fun x=>by rw [h1.iff,h2.iff])
def imp8 (φ:Nat→Bool) (c:Cu):Bool := !emC c&&(List.range 256).all fun s => !hoC c s||φ s
def leaC (φ:Nat→Bool) (c:Cu) (i:Nat):Bool:=(List.range i).all fun r => !(c.1.testBit r&&imp8 φ (c.1-2 ^ r,c.2)) && !(c.2.testBit r&&imp8 φ (c.1,c.2-2 ^ r))
def leastB (φ:Nat→Bool) (S:Nat) (c:Cu):Bool:=hoC c S&&(imp8 φ c&&leaC φ c 8)
theorem Zfk {N i:Nat} (h:N.testBit i=true) (j:Nat):(N-2 ^ i).testBit j=(N.testBit j && !decide (i=j)):=by
 rw [ZV h]
 congr 1
 by_cases e:i=j
 · subst e; simp
 · rw [decide_eq_false e,decide_eq_true (Ne.symm e)]; rfl
theorem Z8C {φ:Nat→Bool} (hφ:∀ S T,(∀ i,1≤i→i≤6→S.testBit i=T.testBit i)→φ S=φ T) {c:Cu} (h1:c.1<256) (h2:c.2<256):imp8 φ c=true↔emC c=false∧Impl φ c:=by
 unfold imp8 Impl
 rw [Bool.and_eq_true,List.all_eq_true,Bool.not_eq_true']
 refine and_congr_right fun he=>?_
 constructor
 · intro h S hS
   have hm:∀ i,(S % 256).testBit i=(decide (i<8)&&S.testBit i):=fun i=>by rw [show 256=2 ^ 8 from rfl,Nat.testBit_mod_two_pow]
   have hb:∀ {x:Nat},x<256→∀ i,x.testBit i=true→i<8:=fun hx i hi=>Nat.lt_of_not_le fun h8=>by
    rw [Nat.testBit_lt_two_pow (Nat.lt_of_lt_of_le hx (Nat.pow_le_pow_right (n:=2) (by decide) h8))] at hi; cases hi
   have hS':hoC c (S % 256)=true:=by
    rw [Z3X] at hS ⊢
    refine⟨fun i hi=>?_,fun i hi=>?_⟩
    · rw [hm,decide_eq_true (hb h1 i hi),hS.1 i hi]; rfl
    · rw [hm,hS.2 i hi,Bool.and_false]
   have h3:=h (S % 256) (List.mem_range.2 (Nat.mod_lt _ (by decide)))
   rw [hS',Bool.not_true,Bool.false_or] at h3
   rw [← h3]
   exact hφ _ _ fun i hi1 hi6=>by rw [hm,decide_eq_true (by omega),Bool.true_and]
 · intro h s hs
   cases hh:hoC c s with
   | false=>rfl
   | true=>rw [h s hh]; rfl
theorem Z6J (c:Cu):emC c=false↔c.1 &&& c.2=0:=by
 unfold emC
 rw [decide_eq_false_iff_not]
 exact Decidable.not_not
theorem ZgS {c:Cu} (h:emC c=false) {i:Nat} (hi:c.1.testBit i=true):emC (c.1-2 ^ i,c.2)=false:=by
 rw [Z6J] at h ⊢
 refine Nat.eq_of_testBit_eq fun j=>?_
 have:=congrArg (fun z=>Nat.testBit z j) h
 simp only [Nat.testBit_and,Nat.zero_testBit] at this ⊢
 rw [Zfk hi]
 cases h1:c.1.testBit j<;>simp_all
theorem ZgT {c:Cu} (h:emC c=false) {i:Nat} (hi:c.2.testBit i=true):emC (c.1,c.2-2 ^ i)=false:=by
 rw [Z6J] at h ⊢
 refine Nat.eq_of_testBit_eq fun j=>?_
 have:=congrArg (fun z=>Nat.testBit z j) h
 simp only [Nat.testBit_and,Nat.zero_testBit] at this ⊢
 rw [Zfk hi]
 cases h1:c.2.testBit j<;>simp_all
theorem Zdm {φ:Nat→Bool} (hφ:∀ S T,(∀ i,1≤i→i≤6→S.testBit i=T.testBit i)→φ S=φ T) {S:Nat} {c:Cu} (h1:c.1<256) (h2:c.2<256):leastB φ S c=true↔hoC c S=true∧Prime φ c:=by
 unfold leastB
 rw [Bool.and_eq_true,Bool.and_eq_true,Z8C hφ h1 h2]
 refine and_congr_right fun hh=>?_
 have hb:∀ {x:Nat},x<256→∀ i,x.testBit i=true→i<8:=fun hx i hi=>Nat.lt_of_not_le fun h8=>by
  rw [Nat.testBit_lt_two_pow (Nat.lt_of_lt_of_le hx (Nat.pow_le_pow_right (n:=2) (by decide) h8))] at hi; cases hi
 have e1:∀ i,imp8 φ (c.1-2 ^ i,c.2)=true↔emC (c.1-2 ^ i,c.2)=false∧Impl φ (c.1-2 ^ i,c.2):=fun i=>Z8C hφ (Nat.lt_of_le_of_lt (Nat.sub_le _ _) h1) h2
 have e2:∀ i,imp8 φ (c.1,c.2-2 ^ i)=true↔emC (c.1,c.2-2 ^ i)=false∧Impl φ (c.1,c.2-2 ^ i):=fun i=>Z8C hφ h1 (Nat.lt_of_le_of_lt (Nat.sub_le _ _) h2)
 unfold leaC
 rw [List.all_eq_true]
 constructor
 · rintro ⟨⟨he, hi⟩, hl⟩
   refine⟨(Z6J c).1 he,hi,fun i hb1 him=>?_,fun i hb2 him=>?_⟩
   · have := hl i (List.mem_range.2 (hb h1 i hb1))
     rw [hb1,(e1 i).2 ⟨ZgS he hb1,him⟩] at this
     simp at this
   · have := hl i (List.mem_range.2 (hb h2 i hb2))
     rw [hb2,(e2 i).2 ⟨ZgT he hb2,him⟩] at this
     simp at this
 · intro hp
   refine⟨⟨(Z6J c).2 hp.dis,hp.imp⟩,fun i _=>?_⟩
   rw [Bool.and_eq_true,Bool.not_eq_true',Bool.not_eq_true',Bool.eq_false_iff,Bool.eq_false_iff]
   refine⟨fun h=>?_,fun h=>?_⟩
   · rw [Bool.and_eq_true, e1] at h
     exact hp.yes i h.1 h.2.2
   · rw [Bool.and_eq_true, e2] at h
     exact hp.no i h.1 h.2.2
def firstC (l:List Cu) (S:Nat):Option Cu:=l.find? fun c=>hoC c S
theorem ZaW {l:List Cu} {S:Nat}:firstC l S=none↔soC l S=false:=by
 unfold firstC soC
 rw [List.find?_eq_none,List.any_eq_false]
end Go.Proofs.YtjpkfigmmmngnaaGreatDoor
namespace Go.Proofs.YtjpkfigmmmngnaaGreatDoor
open Go.RowKit
attribute [local irreducible] aw opsK dK
theorem ZL (b:Bool):Spec Tryz.prog 158 [.val (.bool b)] (· = .val (.int .i64 (b2i b))):=by
 refine Z3 ok158 (Nat.le_of_ble_eq_true rfl) fun C hC=>?_
 cases b
 all_goals
  (refine go ?_;repeat' (apply B<;>intro hb<;>try cases hb))
  exact Z2 rfl trivial rfl
theorem Z7A {α:Type} {l:List α} {i:Nat} (hi:i<l.length):l.take (i+1)=l.take i ++ [l[i]]:=by rw [List.take_add_one,List.getElem?_eq_getElem hi]; rfl
theorem Zfl (l:List Int) (v:Int):nums l ++ [[PV.val (.int .i64 v)]]=nums (l ++ [v]):=by simp [nums]
theorem Zfm (N:Nat) (ms:List Int):∀ l:List Fm,evL N ms l=l.map (evM N ms)
 | []=>rfl
 | a :: l=>by rw [evL,Zfm N ms l,List.map_cons]
set_option maxHeartbeats 8000000 in
theorem Z9B (N:Nat):∀ (d:Nat) (f:Fm),f.depth≤d→Wf f→f.size≤1000→Spec Tryz.prog 127 [.agg (fC .i64 f),.val (.int .u64 (N:Int))] (· = .val (.int .i64 (evM N [] f))):=by
 intro d
 induction d with
 | zero=>intro f hf; rw [Fm.depth_eq] at hf; omega
 | succ d ih =>
   rintro⟨op,n,roles,args⟩ hf hw hsz
   have w:=hw.inv
   have hfd:=(Fm.mk op n roles args).depth_eq
   have hfs:=(Fm.mk op n roles args).size_eq
   rw [show (Fm.mk op n roles args).args=args from rfl] at hfd hfs
   have hlm:=Z1S args
   have hll:(args.map (cellsK .i64)).length=args.length:=by simp
   have hpu:∀ D,innL D (fC .i64 (.mk op n roles args)):=fun D=>Z3T .i64 _ D
   have hpp:=Zh .i64 (.mk op n roles args)
   refine Z3 ok127 (Nat.le_of_ble_eq_true rfl) fun C hC=>?_
   refine Zj ?_
   refine Z9 ?_
   refine Z4 rfl rfl rfl ?_
   repeat' (first|refine Zf (Z10 (k:=5) rfl 1 (by decide)) ?_|(first|refine st ?_|(apply B<;>intro hb<;>try cases hb)))
   refine Z1R hC (fun i=>i≤args.length) (fun i=>args.length-i) 1 (fun i => [(1,.val (.int .u64 (N:Int))),(2,.cp (fC .i64 (.mk op n roles args))),(5,.own 0),(12,.vec (args.map (cellsK .i64)) false),(13,.val (.int .i64 (args.length:Int))),(14,.val (.int .i64 (i:Int)))]) (fun i => [(0,⟨1,nums ((args.take i).map (evM N []))⟩)]) (by omega) 0 (Nat.zero_le _) (fun i=>i) (fun _ _=>rfl) ZS
    ⟨⟨_,rfl,.pure _ trivial⟩,⟨_,rfl,.pure _ hpp⟩,⟨_,rfl,.own 0 (by decide)⟩,⟨_,rfl,.pure _ (Z1L _ _)⟩,⟨_,by rw [← hll]; rfl,.pure _ trivial⟩,⟨_,rfl,.pure _ trivial⟩,trivial⟩ ⟨⟨by omega,_,rfl,.same _ trivial⟩,trivial⟩ ?_
   intro i hi
   have hinc:IntKind.i64.wrap ((i:Int)+1)=((i+1:Nat):Int):=IntWalk.i64_in _ ⟨by omega,by omega⟩
   (repeat'(first|refine Z5 15 ?_|refine Z1 15 ?_|refine st ?_|(apply B<;>intro hb<;>try cases hb)))<;>try refine At.mk ?_
   refine Zg rfl rfl rfl (fun hb=>?_) (fun hb=>?_)
   · have hil : i < args.length := by have := of_decide_eq_true hb; omega
     have hdl:=Z13 hil
     have hsl:=Z4y hil
     have htk:=Z7A hil
     obtain⟨wx,tx⟩:=w.arg args[i] (List.getElem_mem hil)
     have ihx:=ih args[i] (by omega) wx (by omega)
     clear hb
     (refine go ?_;repeat' (apply B<;>intro hb<;>try cases hb))
     refine Z7 (Zl (xs:=args) rfl rfl i rfl hil (Zz _ _)) rfl rfl ?_
     rw [ZF]
     (refine go ?_;repeat' (apply B<;>intro hb<;>try cases hb))
     refine Z6 ihx rfl rfl rfl ⟨Zh _ _,trivial,trivial⟩ rfl ?_
     (repeat'(first|refine Z5 23 ?_|refine Z1 23 ?_|refine st ?_|(apply B<;>intro hb<;>try cases hb)))<;>try refine At.mk ?_
     refine ZM (ZE (k:=0) (m := [[.val (.int .i64 (evM N [] args[i]))]]) (fl:=true) (b:=⟨1,nums ((args.take i).map (evM N []))⟩) rfl rfl rfl (fun c hc=>by rw [List.mem_singleton] at hc; subst hc; rfl) rfl (by
      show ((nums ((args.take i).map (evM N []))).length+1)*8≤_
      rw [ZO,List.length_map,List.length_take];omega)) rfl rfl ?_
     simp only
     rw [Zfl]
     (refine go ?_;repeat' (apply B<;>intro hb<;>try cases hb))
     refine⟨i+1,mv 0 2,hil,by omega,fun j hj=>absurd hj (Nat.not_lt_zero _),ZH rfl,⟨⟨_,rfl,.pure _ trivial⟩,⟨_,rfl,.pure _ hpp⟩,⟨_,rfl,.own 0 (by decide)⟩,⟨_,rfl,.pure _ (Z1L _ _)⟩,⟨_,rfl,.pure _ trivial⟩,⟨_,by show some _=some _; rw [hinc],.pure _ trivial⟩,trivial⟩,⟨⟨by omega,_,rfl,?_⟩,trivial⟩⟩
     rw [htk,List.map_append,List.map_singleton]
     exact .same _ (Za _)
   · have hil : i = args.length := by have := of_decide_eq_false hb; omega
     subst hil
     rw [List.take_length]
     clear hb
     (repeat'(first|refine Z5 26 ?_|refine Z1 26 ?_|refine st ?_|(apply B<;>intro hb<;>try cases hb)))<;>try refine At.mk ?_
     refine Zf (Zn (k:=5) rfl rfl (Za _)) ?_
     have hev:evM N [] (.mk op n roles args)=opM N [] op n roles (args.map (evM N [])):=by rw [evM,Zfm]
     rcases ops16 w.lo w.hi with rfl|rfl|rfl|h4|h4|rfl|rfl|rfl|rfl|rfl|rfl|rfl|rfl|rfl|rfl|rfl
     · (refine go ?_;repeat' (apply B<;>intro hb<;>try cases hb))
       exact Z2 rfl trivial (by rw [hev]; rfl)
     · (refine go ?_;repeat' (apply B<;>intro hb<;>try cases hb))
       exact Z2 rfl trivial (by rw [hev]; rfl)
     · (refine go ?_;repeat' (apply B<;>intro hb<;>try cases hb))
       exact Z2 rfl trivial (by rw [hev]; rfl)
     · subst h4
       have hl:=ZO roles
       have hmost:=w.most
       have hm8:roles.length≤8:=by
        have:(roles.length:Int)≤8:=Int.le_trans hmost (by decide)
        omega
       have hnp:∀ D,innLL D (nums roles):=fun D=>Ze (fun _ h=>h.elim) _ (Za _)
       (refine go ?_;repeat' (apply B<;>intro hb<;>try cases hb))
       refine Zo hC (fun i=>i≤roles.length) (fun i=>roles.length-i) 0 (fun i => [(1,.val (.int .u64 (N:Int))),(8,.val (.int .i64 (cntM N (roles.take i)))),(37,.vec (nums roles) false),(38,.val (.int .i64 (roles.length:Int))),(39,.val (.int .i64 (i:Int)))]) (fun _=>[]) (Nat.zero_le _) 0 (Nat.zero_le _)
        ⟨⟨rfl,trivial⟩,⟨rfl,trivial⟩,⟨rfl,hnp _⟩,⟨by rw [← hl]; rfl,trivial⟩,⟨rfl,trivial⟩,trivial⟩ trivial ?_
       intro i hi
       have hinc:IntKind.i64.wrap ((i:Int)+1)=((i+1:Nat):Int):=IntWalk.i64_in _ ⟨by omega,by omega⟩
       (repeat'(first|refine Z5 40 ?_|refine Z1 40 ?_|refine st ?_|(apply B<;>intro hb<;>try cases hb)))<;>try refine At.mk ?_
       refine Zg rfl rfl rfl (fun hb=>?_) (fun hb=>?_)
       · have hil : i < roles.length := by have := of_decide_eq_true hb; omega
         have hrr:=w.rng roles[i] (List.getElem_mem _)
         have c1:=Z4B (N:=N) hil
         have c2:=Z2G N (roles.take i)
         have c3:(roles.take i).length≤roles.length:=by rw [List.length_take]; omega
         clear hb
         (refine go ?_;repeat' (apply B<;>intro hb<;>try cases hb))
         refine Z7 (Zl (xs:=roles) (g:=fun x => [.val (.int .i64 x)]) rfl rfl i rfl hil rfl) rfl rfl ?_
         generalize roles[i]=r at c1 hrr ⊢
         obtain⟨q,rfl⟩:∃ q:Nat,r=(q:Int):=⟨r.toNat,by omega⟩
         have hq:q<64:=by omega
         rw [Int.toNat_natCast] at c1
         have hbit:b2i (N.testBit q)=((N / 2 ^ q % 2:Nat):Int):=by
          rw [Nat.testBit_eq_decide_div_mod_eq]
          rcases Nat.mod_two_eq_zero_or_one (N / 2 ^ q) with h|h<;>rw [h]<;>rfl
         have hw1:IntKind.i64.wrap ((N / 2 ^ q % 2:Nat):Int)=((N / 2 ^ q % 2:Nat):Int):=IntWalk.i64_in _ ⟨by omega,by omega⟩
         have hw2:IntKind.i64.wrap (cntM N (roles.take i)+((N / 2 ^ q % 2:Nat):Int))=cntM N (roles.take (i+1)):=by
          rw [c1,hbit]
          exact IntWalk.i64_in _ ⟨by omega,by omega⟩
         (repeat'(first|refine Z5 46 ?_|refine Z1 46 ?_|refine st ?_|(apply B<;>intro hb<;>try cases hb)))<;>try refine At.mk ?_
         refine Zk rfl rfl rfl (Z3g N q hq) ?_
         refine Zk rfl rfl rfl (Z2T N q) ?_
         refine Zk rfl rfl rfl hw1 ?_
         refine Zk rfl rfl rfl hw2 ?_
         (refine go ?_;repeat' (apply B<;>intro hb<;>try cases hb))
         exact⟨i+1,hil,by omega,⟨⟨rfl,trivial⟩,⟨rfl,trivial⟩,⟨rfl,hnp _⟩,⟨rfl,trivial⟩,⟨by show some _=some _; rw [hinc],trivial⟩,trivial⟩,trivial⟩
       · have hil : i = roles.length := by have := of_decide_eq_false hb; omega
         subst hil
         rw [List.take_length]
         clear hb
         (refine go ?_;repeat' (apply B<;>intro hb<;>try cases hb))
         exact Z2 rfl trivial (by rw [hev]; rfl)
     · subst h4
       have hl:=ZO roles
       have hmost:=w.most
       have hm8:roles.length≤8:=by
        have:(roles.length:Int)≤8:=Int.le_trans hmost (by decide)
        omega
       have hnp:∀ D,innLL D (nums roles):=fun D=>Ze (fun _ h=>h.elim) _ (Za _)
       (refine go ?_;repeat' (apply B<;>intro hb<;>try cases hb))
       refine Zo hC (fun i=>i≤roles.length) (fun i=>roles.length-i) 0 (fun i => [(1,.val (.int .u64 (N:Int))),(8,.val (.int .i64 (cntM N (roles.take i)))),(37,.vec (nums roles) false),(38,.val (.int .i64 (roles.length:Int))),(39,.val (.int .i64 (i:Int)))]) (fun _=>[]) (Nat.zero_le _) 0 (Nat.zero_le _)
        ⟨⟨rfl,trivial⟩,⟨rfl,trivial⟩,⟨rfl,hnp _⟩,⟨by rw [← hl]; rfl,trivial⟩,⟨rfl,trivial⟩,trivial⟩ trivial ?_
       intro i hi
       have hinc:IntKind.i64.wrap ((i:Int)+1)=((i+1:Nat):Int):=IntWalk.i64_in _ ⟨by omega,by omega⟩
       (repeat'(first|refine Z5 40 ?_|refine Z1 40 ?_|refine st ?_|(apply B<;>intro hb<;>try cases hb)))<;>try refine At.mk ?_
       refine Zg rfl rfl rfl (fun hb=>?_) (fun hb=>?_)
       · have hil : i < roles.length := by have := of_decide_eq_true hb; omega
         have hrr:=w.rng roles[i] (List.getElem_mem _)
         have c1:=Z4B (N:=N) hil
         have c2:=Z2G N (roles.take i)
         have c3:(roles.take i).length≤roles.length:=by rw [List.length_take]; omega
         clear hb
         (refine go ?_;repeat' (apply B<;>intro hb<;>try cases hb))
         refine Z7 (Zl (xs:=roles) (g:=fun x => [.val (.int .i64 x)]) rfl rfl i rfl hil rfl) rfl rfl ?_
         generalize roles[i]=r at c1 hrr ⊢
         obtain⟨q,rfl⟩:∃ q:Nat,r=(q:Int):=⟨r.toNat,by omega⟩
         have hq:q<64:=by omega
         rw [Int.toNat_natCast] at c1
         have hbit:b2i (N.testBit q)=((N / 2 ^ q % 2:Nat):Int):=by
          rw [Nat.testBit_eq_decide_div_mod_eq]
          rcases Nat.mod_two_eq_zero_or_one (N / 2 ^ q) with h|h<;>rw [h]<;>rfl
         have hw1:IntKind.i64.wrap ((N / 2 ^ q % 2:Nat):Int)=((N / 2 ^ q % 2:Nat):Int):=IntWalk.i64_in _ ⟨by omega,by omega⟩
         have hw2:IntKind.i64.wrap (cntM N (roles.take i)+((N / 2 ^ q % 2:Nat):Int))=cntM N (roles.take (i+1)):=by
          rw [c1,hbit]
          exact IntWalk.i64_in _ ⟨by omega,by omega⟩
         (repeat'(first|refine Z5 46 ?_|refine Z1 46 ?_|refine st ?_|(apply B<;>intro hb<;>try cases hb)))<;>try refine At.mk ?_
         refine Zk rfl rfl rfl (Z3g N q hq) ?_
         refine Zk rfl rfl rfl (Z2T N q) ?_
         refine Zk rfl rfl rfl hw1 ?_
         refine Zk rfl rfl rfl hw2 ?_
         (refine go ?_;repeat' (apply B<;>intro hb<;>try cases hb))
         exact⟨i+1,hil,by omega,⟨⟨rfl,trivial⟩,⟨rfl,trivial⟩,⟨rfl,hnp _⟩,⟨rfl,trivial⟩,⟨by show some _=some _; rw [hinc],trivial⟩,trivial⟩,trivial⟩
       · have hil : i = roles.length := by have := of_decide_eq_false hb; omega
         subst hil
         rw [List.take_length]
         clear hb
         (refine go ?_;repeat' (apply B<;>intro hb<;>try cases hb))
         exact Z2 rfl trivial (by rw [hev]; rfl)
     · obtain ⟨r, rfl⟩ := w.role (.inr rfl)
       have hrr:=w.rng r (by simp)
       (refine go ?_;repeat' (apply B<;>intro hb<;>try cases hb))
       exact Z2 rfl trivial (by rw [hev]; show _=PV.val (Value.int .i64 (memM [] r)); unfold memM; rw [if_pos (by show r≥0;omega)]; rfl)
     · obtain ⟨x, rfl⟩ := w.one
       obtain⟨wx,tx⟩:=w.arg x (by simp)
       obtain⟨⟨x1,x2⟩,x3⟩:=Z1i N [] x.depth x (Nat.le_refl _) wx
       rw [Z4C] at hsz
       (refine go ?_;repeat' (apply B<;>intro hb<;>try cases hb))
       have:IntKind.i64.wrap (1-evM N [] x)=1-evM N [] x:=IntWalk.i64_in _ ⟨by omega,by omega⟩
       exact Z2 rfl trivial (by rw [hev]; show PV.val (Value.int .i64 (IntKind.i64.wrap (1-evM N [] x)))=_; rw [this]; rfl)
     all_goals
      obtain⟨x,y,rfl⟩:=w.two (by decide)
      obtain⟨wx,tx⟩:=w.arg x (by simp)
      obtain⟨wy,ty⟩:=w.arg y (by simp)
      rw [Z4D] at hsz
      obtain⟨⟨x1,x2⟩,x3⟩:=Z1i N [] x.depth x (Nat.le_refl _) wx
      obtain⟨⟨y1,y2⟩,y3⟩:=Z1i N [] y.depth y (Nat.le_refl _) wy
      rw [Z80 _ _ _ _ _ _ (by decide)]
      rw [show [x,y].map (evM N []) = [evM N [] x,evM N [] y] from rfl]
      clear hev ih
      generalize evM N [] x=a at *
      generalize evM N [] y=b at *
     · rw [wantM, if_neg (by decide)] at tx ty
       rcases x3 tx with rfl|rfl<;>rcases y3 ty with rfl|rfl
       all_goals
        (repeat'(first|refine Z5 70 ?_|refine Z1 70 ?_|refine st ?_|(apply B<;>intro hb<;>try cases hb)))<;>try refine At.mk ?_
        first
         | refine Z6 (ZL true) rfl rfl rfl ⟨trivial,trivial⟩ rfl ?_
         | refine Z6 (ZL false) rfl rfl rfl ⟨trivial,trivial⟩ rfl ?_
        (refine go ?_;repeat' (apply B<;>intro hb<;>try cases hb))
        exact Z2 rfl trivial rfl
     · rw [wantM, if_neg (by decide)] at tx ty
       rcases x3 tx with rfl|rfl<;>rcases y3 ty with rfl|rfl
       all_goals
        (repeat'(first|refine Z5 83 ?_|refine Z1 83 ?_|refine st ?_|(apply B<;>intro hb<;>try cases hb)))<;>try refine At.mk ?_
        first
         | refine Z6 (ZL true) rfl rfl rfl ⟨trivial,trivial⟩ rfl ?_
         | refine Z6 (ZL false) rfl rfl rfl ⟨trivial,trivial⟩ rfl ?_
        (refine go ?_;repeat' (apply B<;>intro hb<;>try cases hb))
        exact Z2 rfl trivial rfl
     · rw [wantM, if_neg (by decide)] at tx ty
       rcases x3 tx with rfl|rfl<;>rcases y3 ty with rfl|rfl
       all_goals
        (repeat'(first|refine Z5 96 ?_|refine Z1 96 ?_|refine st ?_|(apply B<;>intro hb<;>try cases hb)))<;>try refine At.mk ?_
        first
         | refine Z6 (ZL true) rfl rfl rfl ⟨trivial,trivial⟩ rfl ?_
         | refine Z6 (ZL false) rfl rfl rfl ⟨trivial,trivial⟩ rfl ?_
        (refine go ?_;repeat' (apply B<;>intro hb<;>try cases hb))
        exact Z2 rfl trivial rfl
     · (repeat'(first|refine Z5 105 ?_|refine Z1 105 ?_|refine st ?_|(apply B<;>intro hb<;>try cases hb)))<;>try refine At.mk ?_
       refine Zu rfl rfl rfl ?_
       refine Zq (ZL (decide (a≤b))) rfl rfl rfl ⟨trivial,trivial⟩ ?_
       (refine go ?_;repeat' (apply B<;>intro hb<;>try cases hb))
       exact Z2 rfl trivial rfl
     · (repeat'(first|refine Z5 115 ?_|refine Z1 115 ?_|refine st ?_|(apply B<;>intro hb<;>try cases hb)))<;>try refine At.mk ?_
       refine Zu rfl rfl rfl ?_
       refine Zq (ZL (decide (a<b))) rfl rfl rfl ⟨trivial,trivial⟩ ?_
       (refine go ?_;repeat' (apply B<;>intro hb<;>try cases hb))
       exact Z2 rfl trivial rfl
     · (repeat'(first|refine Z5 125 ?_|refine Z1 125 ?_|refine st ?_|(apply B<;>intro hb<;>try cases hb)))<;>try refine At.mk ?_
       refine Zu rfl rfl rfl ?_
       refine Zq (ZL (decide (a≥b))) rfl rfl rfl ⟨trivial,trivial⟩ ?_
       (refine go ?_;repeat' (apply B<;>intro hb<;>try cases hb))
       exact Z2 rfl trivial rfl
     · (repeat'(first|refine Z5 135 ?_|refine Z1 135 ?_|refine st ?_|(apply B<;>intro hb<;>try cases hb)))<;>try refine At.mk ?_
       refine Zu rfl rfl rfl ?_
       refine Zq (ZL (decide (a>b))) rfl rfl rfl ⟨trivial,trivial⟩ ?_
       (refine go ?_;repeat' (apply B<;>intro hb<;>try cases hb))
       exact Z2 rfl trivial rfl
     · (repeat'(first|refine Z5 145 ?_|refine Z1 145 ?_|refine st ?_|(apply B<;>intro hb<;>try cases hb)))<;>try refine At.mk ?_
       refine Zu rfl rfl rfl ?_
       refine Zq (ZL (a == b)) rfl rfl rfl ⟨trivial,trivial⟩ ?_
       (refine go ?_;repeat' (apply B<;>intro hb<;>try cases hb))
       exact Z2 rfl trivial rfl
     · have : IntKind.i64.wrap (a + b) = a + b := IntWalk.i64_in _ ⟨by omega, by omega⟩
       (refine go ?_;repeat' (apply B<;>intro hb<;>try cases hb))
       exact Z2 rfl trivial (by show PV.val (Value.int .i64 (IntKind.i64.wrap (a+b)))=_; rw [this]; rfl)
theorem Z9C (p:Nat→Bool) (i:Nat):(List.range (i+1)).all p=((List.range i).all p&&p i):=by rw [List.range_succ,List.all_append]; simp
theorem Zfn {p:Nat→Bool} {i n:Nat} (hi:i<n) (h:p i=false):(List.range n).all p=false:=by
 rw [List.all_eq_false]
 exact⟨i,List.mem_range.2 hi,by rw [h]; decide⟩
theorem ZgU (f:Fm) (s:Nat):(evM s [] f == 1)=holdB f s:=by unfold holdB; rw [Bool.eq_iff_iff]; simp
set_option maxHeartbeats 4000000 in
theorem Z1W {f:Fm} (m:Made6 f) (c:Cu) (hc:Ok64 c):Spec Tryz.prog 92 [.agg (fC .i64 f),.agg (raC c)] (· = .val (.bool (imp8 (vioB f) c))):=by
 have hms:=m.size
 have hpf:∀ D,innL D (fC .i64 f):=fun D=>Z3T .i64 f D
 have hpc:∀ D,innL D (raC c):=fun D=>Zx (fun _ h=>h.elim) _ (Z1m c)
 refine Z3 ok92 (Nat.le_of_ble_eq_true rfl) fun C hC=>?_
 refine Zj ?_
 refine Z9 ?_
 refine Z4 rfl rfl rfl ?_
 refine Z4 rfl rfl rfl ?_
 (refine go ?_;repeat' (apply B<;>intro hb<;>try cases hb))
 refine Z6 (Z9x c hc) rfl rfl rfl ⟨Z1m c,trivial⟩ rfl ?_
 have hI:imp8 (vioB f) c=(!emC c&&(List.range 256).all fun s => !hoC c s||vioB f s):=rfl
 rw [hI]
 cases emC c with
 | true =>
   (refine go ?_;repeat' (apply B<;>intro hb<;>try cases hb))
   exact Z2 rfl trivial rfl
 | false =>
   (refine go ?_;repeat' (apply B<;>intro hb<;>try cases hb))
   refine Zo hC (fun i=>i≤256∧((List.range i).all fun s => !hoC c s||vioB f s)=true) (fun i=>256-i) 0 (fun i => [(2,.cp (fC .i64 f)),(3,.cp (raC c)),(5,.val (.int .u64 (i:Int)))]) (fun _=>[]) (Nat.zero_le _) 0 ⟨Nat.zero_le _,rfl⟩
    ⟨⟨rfl,hpf _⟩,⟨rfl,hpc _⟩,⟨rfl,trivial⟩,trivial⟩ trivial ?_
   rintro i ⟨hi,hall⟩
   have hinc:IntKind.u64.wrap ((i:Int)+1)=((i+1:Nat):Int):=IntWalk.u64_in _ ⟨by omega,by omega⟩
   (repeat'(first|refine Z5 9 ?_|refine Z1 9 ?_|refine st ?_|(apply B<;>intro hb<;>try cases hb)))<;>try refine At.mk ?_
   refine Zg rfl rfl rfl (fun hb=>?_) (fun hb=>?_)
   · have hil : i < 256 := by have := of_decide_eq_true hb; omega
     clear hb
     have hsu:=Z9C (fun s => !hoC c s||vioB f s) i
     have hno:=fun h=>Zfn (p:=fun s => !hoC c s||vioB f s) hil h
     rw [hall,Bool.true_and] at hsu
     (refine go ?_;repeat' (apply B<;>intro hb<;>try cases hb))
     refine Z6 (Z5z c i hc (by omega)) rfl rfl rfl ⟨Z1m c,trivial,trivial⟩ rfl ?_
     cases hho:hoC c i with
     | false =>
       rw [hho] at hsu
       (refine go ?_;repeat' (apply B<;>intro hb<;>try cases hb))
       exact⟨i+1,⟨hil,hsu⟩,by omega,⟨⟨rfl,hpf _⟩,⟨rfl,hpc _⟩,⟨by show some _=some _; rw [hinc],trivial⟩,trivial⟩,trivial⟩
     | true =>
       rw [hho] at hsu hno
       (refine go ?_;repeat' (apply B<;>intro hb<;>try cases hb))
       refine Z6 (Z9B i f.depth f (Nat.le_refl _) m.wf (by omega)) rfl rfl rfl ⟨Zh _ _,trivial,trivial⟩ rfl ?_
       refine Zs rfl ?_
       refine Z1J rfl rfl rfl (ZgU f i) ?_
       have hh:=m.hold i
       generalize holdB f i=v at hh
       cases v with
       | true =>
         (refine go ?_;repeat' (apply B<;>intro hb<;>try cases hb))
         have hv:vioB f i=false:=by revert hh; cases vioB f i<;>simp
         exact Z2 rfl trivial (by rw [hno (by rw [hv]; rfl)]; rfl)
       | false =>
         have hv:vioB f i=true:=by revert hh; cases vioB f i<;>simp
         rw [hv] at hsu
         (refine go ?_;repeat' (apply B<;>intro hb<;>try cases hb))
         exact⟨i+1,⟨hil,hsu⟩,by omega,⟨⟨rfl,hpf _⟩,⟨rfl,hpc _⟩,⟨by show some _=some _; rw [hinc],trivial⟩,trivial⟩,trivial⟩
   · have hil : i = 256 := by have := of_decide_eq_false hb; omega
     subst hil
     clear hb
     rw [hall]
     (refine go ?_;repeat' (apply B<;>intro hb<;>try cases hb))
     exact Z2 rfl trivial rfl
theorem Z7B {a r:Nat}:(((a &&& 2 ^ r:Nat):Int) != 0)=a.testBit r:=by
 rw [Bool.eq_iff_iff,bne_iff_ne,Ne,Int.natCast_eq_zero]
 constructor
 · intro h
   refine Classical.byContradiction fun hn=>h (Nat.eq_of_testBit_eq fun i=>?_)
   rw [Nat.testBit_and,Nat.testBit_two_pow,Nat.zero_testBit]
   by_cases hi:r=i
   · subst hi; rw [Bool.eq_false_iff.2 hn]; rfl
   · rw [decide_eq_false hi,Bool.and_false]
 · intro h h0
   have:=congrArg (fun z=>Nat.testBit z r) h0
   simp only [Nat.testBit_and,Nat.testBit_two_pow,Nat.zero_testBit,h,decide_true,Bool.true_and] at this
   cases this
theorem Zfo {a r:Nat} (ha:a<18446744073709551616) (h:a.testBit r=true):IntKind.u64.wrap ((a:Int)-((2 ^ r:Nat):Int))=((a-2 ^ r:Nat):Int):=by
 have hle:=Nat.ge_two_pow_of_testBit h
 rw [← Int.ofNat_sub hle]
 exact w64 _ (Nat.lt_of_le_of_lt (Nat.sub_le _ _) ha)
theorem Zfp (φ:Nat→Bool) (c:Cu) (r:Nat):leaC φ c (r+1)=(leaC φ c r&&(!(c.1.testBit r&&imp8 φ (c.1-2 ^ r,c.2)) && !(c.2.testBit r&&imp8 φ (c.1,c.2-2 ^ r)))):=Z9C _ r
theorem ZhQ {φ:Nat→Bool} {c:Cu} {r:Nat} (hr:r<8) (h:(!(c.1.testBit r&&imp8 φ (c.1-2 ^ r,c.2)) && !(c.2.testBit r&&imp8 φ (c.1,c.2-2 ^ r)))=false):leaC φ c 8=false:=Zfn (p:=fun r => !(c.1.testBit r&&imp8 φ (c.1-2 ^ r,c.2)) && !(c.2.testBit r&&imp8 φ (c.1,c.2-2 ^ r))) hr h
set_option maxHeartbeats 8000000 in
theorem Z9D {f:Fm} (m:Made6 f) (S:Nat) (hS:S<18446744073709551616) (c:Cu) (hc:Ok64 c):Spec Tryz.prog 43 [.agg (fC .i64 f),.val (.int .u64 (S:Int)),.agg (raC c)] (· = .val (.bool (leastB (vioB f) S c))):=by
 have hpf:∀ D,innL D (fC .i64 f):=fun D=>Z3T .i64 f D
 have hpc:∀ D,innL D (raC c):=fun D=>Zx (fun _ h=>h.elim) _ (Z1m c)
 refine Z3 ok43 (Nat.le_of_ble_eq_true rfl) fun C hC=>?_
 refine Zj ?_
 refine Z9 ?_
 refine Z4 rfl rfl rfl ?_
 refine Z4 rfl rfl rfl ?_
 (refine go ?_;repeat' (apply B<;>intro hb<;>try cases hb))
 refine Z6 (Z5z c S hc hS) rfl rfl rfl ⟨Z1m c,trivial,trivial⟩ rfl ?_
 have hL:leastB (vioB f) S c=(hoC c S&&(imp8 (vioB f) c&&leaC (vioB f) c 8)):=rfl
 rw [hL]
 cases hoC c S with
 | false =>
   (refine go ?_;repeat' (apply B<;>intro hb<;>try cases hb))
   exact Z2 rfl trivial rfl
 | true =>
 (refine go ?_;repeat' (apply B<;>intro hb<;>try cases hb))
 refine Z6 (Z1W m c hc) rfl rfl rfl ⟨Zh _ _,Z1m _,trivial⟩ rfl ?_
 cases imp8 (vioB f) c with
 | false =>
   (refine go ?_;repeat' (apply B<;>intro hb<;>try cases hb))
   exact Z2 rfl trivial rfl
 | true =>
 (refine go ?_;repeat' (apply B<;>intro hb<;>try cases hb))
 refine Zo hC (fun r=>r≤8∧leaC (vioB f) c r=true) (fun r=>8-r) 0 (fun r => [(3,.cp (fC .i64 f)),(5,.cp (raC c)),(7,.val (.int .i64 (r:Int)))]) (fun _=>[]) (Nat.zero_le _) 0 ⟨Nat.zero_le _,rfl⟩
  ⟨⟨rfl,hpf _⟩,⟨rfl,hpc _⟩,⟨rfl,trivial⟩,trivial⟩ trivial ?_
 rintro r ⟨hr,hall⟩
 have hinc:IntKind.i64.wrap ((r:Int)+1)=((r+1:Nat):Int):=IntWalk.i64_in _ ⟨by omega,by omega⟩
 (repeat'(first|refine Z5 20 ?_|refine Z1 20 ?_|refine st ?_|(apply B<;>intro hb<;>try cases hb)))<;>try refine At.mk ?_
 refine Zg rfl rfl rfl (fun hb=>?_) (fun hb=>?_)
 · have hrl : r < 8 := by have := of_decide_eq_true hb; omega
   clear hb
   have hp:=Z17 (show r<64 by omega)
   have hA1:=bits_and_u64_nat c.1 (2 ^ r) hc.1 hp
   have hA2:=bits_and_u64_nat c.2 (2 ^ r) hc.2 hp
   have hB1:=Z7B (a:=c.1) (r:=r)
   have hB2:=Z7B (a:=c.2) (r:=r)
   have hs1:=Zfo (a:=c.1) (r:=r) hc.1
   have hs2:=Zfo (a:=c.2) (r:=r) hc.2
   have hst:=Zfp (vioB f) c r
   have hno:=ZhQ (φ:=vioB f) (c:=c) hrl
   rw [hall,Bool.true_and] at hst
   (repeat'(first|refine Z5 24 ?_|refine Z1 24 ?_|refine st ?_|(apply B<;>intro hb<;>try cases hb)))<;>try refine At.mk ?_
   refine Zk rfl rfl rfl (Zgy r (by omega)) ?_
   (repeat'(first|refine Z5 28 ?_|refine Z1 28 ?_|refine st ?_|(apply B<;>intro hb<;>try cases hb)))<;>try refine At.mk ?_
   refine Zk rfl rfl rfl hA1 ?_
   refine Z1J rfl rfl rfl hB1 ?_
   cases h1:c.1.testBit r with
   | false =>
     rw [h1,Bool.false_and,Bool.not_false,Bool.true_and] at hst hno
     (repeat'(first|refine Z5 45 ?_|refine Z1 45 ?_|refine st ?_|(apply B<;>intro hb<;>try cases hb)))<;>try refine At.mk ?_
     refine Zs rfl ?_
     refine Zk rfl rfl rfl hA2 ?_
     refine Zs rfl ?_
     refine Z1J rfl rfl rfl hB2 ?_
     cases h2:c.2.testBit r with
     | false =>
       rw [h2,Bool.false_and] at hst
       (refine go ?_;repeat' (apply B<;>intro hb<;>try cases hb))
       exact⟨r+1,⟨hrl,hst⟩,by omega,⟨⟨rfl,hpf _⟩,⟨rfl,hpc _⟩,⟨by show some _=some _; rw [hinc],trivial⟩,trivial⟩,trivial⟩
     | true =>
       rw [h2,Bool.true_and] at hst hno
       have hS2:=hs2 h2
       (repeat'(first|refine Z5 54 ?_|refine Z1 54 ?_|refine st ?_|(apply B<;>intro hb<;>try cases hb)))<;>try refine At.mk ?_
       refine Zs rfl ?_
       refine Zk rfl rfl rfl hS2 ?_
       (repeat'(first|refine Z5 56 ?_|refine Z1 56 ?_|refine st ?_|(apply B<;>intro hb<;>try cases hb)))<;>try refine At.mk ?_
       refine Zs rfl ?_
       refine Z6 (Z1W m (c.1,c.2-2 ^ r) ⟨hc.1,Nat.lt_of_le_of_lt (Nat.sub_le _ _) hc.2⟩) rfl rfl rfl ⟨Zh _ _,Z1m _,trivial⟩ rfl ?_
       generalize imp8 (vioB f) (c.1,c.2-2 ^ r)=v2 at hst hno
       cases v2 with
       | true =>
         (refine go ?_;repeat' (apply B<;>intro hb<;>try cases hb))
         exact Z2 rfl trivial (by rw [hno rfl]; rfl)
       | false =>
         (refine go ?_;repeat' (apply B<;>intro hb<;>try cases hb))
         exact⟨r+1,⟨hrl,hst⟩,by omega,⟨⟨rfl,hpf _⟩,⟨rfl,hpc _⟩,⟨by show some _=some _; rw [hinc],trivial⟩,trivial⟩,trivial⟩
   | true =>
     rw [h1,Bool.true_and] at hst hno
     have hS1:=hs1 h1
     (repeat'(first|refine Z5 35 ?_|refine Z1 35 ?_|refine st ?_|(apply B<;>intro hb<;>try cases hb)))<;>try refine At.mk ?_
     refine Zs rfl ?_
     refine Zk rfl rfl rfl hS1 ?_
     (repeat'(first|refine Z5 39 ?_|refine Z1 39 ?_|refine st ?_|(apply B<;>intro hb<;>try cases hb)))<;>try refine At.mk ?_
     refine Zs rfl ?_
     refine Z6 (Z1W m (c.1-2 ^ r,c.2) ⟨Nat.lt_of_le_of_lt (Nat.sub_le _ _) hc.1,hc.2⟩) rfl rfl rfl ⟨Zh _ _,Z1m _,trivial⟩ rfl ?_
     generalize imp8 (vioB f) (c.1-2 ^ r,c.2)=v1 at hst hno
     cases v1 with
     | true =>
       (refine go ?_;repeat' (apply B<;>intro hb<;>try cases hb))
       exact Z2 rfl trivial (by rw [hno rfl]; rfl)
     | false =>
       rw [Bool.not_false,Bool.true_and] at hst hno
       (repeat'(first|refine Z5 45 ?_|refine Z1 45 ?_|refine st ?_|(apply B<;>intro hb<;>try cases hb)))<;>try refine At.mk ?_
       refine Zs rfl ?_
       refine Zk rfl rfl rfl hA2 ?_
       refine Zs rfl ?_
       refine Z1J rfl rfl rfl hB2 ?_
       cases h2:c.2.testBit r with
       | false =>
         rw [h2,Bool.false_and] at hst
         (refine go ?_;repeat' (apply B<;>intro hb<;>try cases hb))
         exact⟨r+1,⟨hrl,hst⟩,by omega,⟨⟨rfl,hpf _⟩,⟨rfl,hpc _⟩,⟨by show some _=some _; rw [hinc],trivial⟩,trivial⟩,trivial⟩
       | true =>
         rw [h2,Bool.true_and] at hst hno
         have hS2:=hs2 h2
         (repeat'(first|refine Z5 54 ?_|refine Z1 54 ?_|refine st ?_|(apply B<;>intro hb<;>try cases hb)))<;>try refine At.mk ?_
         refine Zs rfl ?_
         refine Zk rfl rfl rfl hS2 ?_
         (repeat'(first|refine Z5 56 ?_|refine Z1 56 ?_|refine st ?_|(apply B<;>intro hb<;>try cases hb)))<;>try refine At.mk ?_
         refine Zs rfl ?_
         refine Z6 (Z1W m (c.1,c.2-2 ^ r) ⟨hc.1,Nat.lt_of_le_of_lt (Nat.sub_le _ _) hc.2⟩) rfl rfl rfl ⟨Zh _ _,Z1m _,trivial⟩ rfl ?_
         generalize imp8 (vioB f) (c.1,c.2-2 ^ r)=v2 at hst hno
         cases v2 with
         | true =>
           (refine go ?_;repeat' (apply B<;>intro hb<;>try cases hb))
           exact Z2 rfl trivial (by rw [hno rfl]; rfl)
         | false =>
           (refine go ?_;repeat' (apply B<;>intro hb<;>try cases hb))
           exact⟨r+1,⟨hrl,hst⟩,by omega,⟨⟨rfl,hpf _⟩,⟨rfl,hpc _⟩,⟨by show some _=some _; rw [hinc],trivial⟩,trivial⟩,trivial⟩
 · have hrl : r = 8 := by have := of_decide_eq_false hb; omega
   subst hrl
   clear hb
   rw [hall]
   (refine go ?_;repeat' (apply B<;>intro hb<;>try cases hb))
   exact Z2 rfl trivial rfl
end Go.Proofs.YtjpkfigmmmngnaaGreatDoor
namespace Go.Proofs.YtjpkfigmmmngnaaGreatDoor
open Go.RowKit
def smAll (l:List Nat) (good:Nat→Bool):Nat→List Nat
 | 0 => []
 | m+1=>smStep good (smAll l good m) (subM l m)
theorem Z7C {l:List Nat} (hl:l.Nodup) (good:Nat→Bool):∀ m,m≤2 ^ l.length→Mins (tried l m) good (smAll l good m)
 | 0,_=>(Mins.begin good).congr fun s=>⟨False.elim,fun ⟨j,h,_⟩=>absurd h (Nat.not_lt_zero j)⟩
 | m+1,h=>((Z7C hl good m (by omega)).step (Zfh hl (by omega))).congr fun s=>(Zdl l m s).symm
theorem Zfq {E:Nat} (hE:E<18446744073709551616) (good:Nat→Bool):Mins (fun s=>s ||| E=E) good (smAll (mem E) good (2 ^ (mem E).length)) :=
 (Z7C (Z6q E) good _ (Nat.le_refl _)).congr fun s=>Zfi hE s
theorem Zdn (good:Nat→Bool) (out:List Nat) (s:Nat):(smStep good out s).length≤out.length+1:=by
 unfold smStep
 split
 · split<;>simp
 · split
   · simp
   · split
     · split<;>simp
     · simp
theorem Z9E (l:List Nat) (good:Nat→Bool):∀ m,(smAll l good m).length≤m
 | 0=>Nat.le_refl _
 | m+1=>Nat.le_trans (Zdn good _ _) (Nat.succ_le_succ (Z9E l good m))
theorem Zfr {E m:Nat} (hE:E<18446744073709551616):subM (mem E) m<18446744073709551616:=Zfj (n:=18446744073709551616) (fr:=E) (orSub.2 fun i hi=>by
 obtain⟨k,hk,h1,_⟩:=(Z50 _ _ _).1 hi
 exact (Z1O hE).1 (h1▸List.getElem_mem hk)) hE
theorem Z8D {E:Nat} (hE:E<18446744073709551616) (good:Nat→Bool):∀ m,∀ s∈smAll (mem E) good m,s<18446744073709551616
 | 0,s,h=>by cases h
 | m + 1, s, h => by
   have ih:=Z8D hE good m
   have hx:∀ x∈smStep good (smAll (mem E) good m) (subM (mem E) m),x∈smAll (mem E) good m ∨ x=subM (mem E) m:=fun x hx=>by
    unfold smStep at hx
    split at hx
    · split at hx
      · exact .inr (List.mem_singleton.1 hx)
      · cases hx
    · rename_i a r heq
      rw [heq]
      split at hx
      · exact .inl hx
      · split at hx
        · split at hx
          · exact .inr (List.mem_singleton.1 hx)
          · rcases List.mem_append.1 hx with hx | hx
            · exact .inl hx
            · exact .inr (List.mem_singleton.1 hx)
        · exact .inl hx
   rcases hx s h with h1|rfl
   · exact ih s h1
   · exact Zfr hE
noncomputable def gdR (f:Fm) (l:List Pr) (E s:Nat):Bool:=holdB f (clo l (minusN E s))
noncomputable def gdA (f:Fm) (l:List Pr) (E s:Nat):Bool:=holdB f (clo l (E ||| s))
theorem Z2e {a:Nat} (b:Nat) (ha:a<18446744073709551616):minusN a b<18446744073709551616:=Nat.lt_of_le_of_lt Nat.and_le_left ha
theorem ZaX {a:Nat} (ha:a<18446744073709551616):minusN a a=0:=Nat.eq_of_testBit_eq fun i=>by rw [Z1T ha ha,Nat.zero_testBit]; cases a.testBit i<;>rfl
theorem ZgV (l:List Pr):clo l 0=0:=Nat.eq_of_testBit_eq fun i=>by
 rw [Nat.zero_testBit]
 refine Bool.eq_false_iff.2 fun h=>?_
 obtain⟨r,h1,_⟩:=(Z6E 0 i (by decide)).1 h
 rw [Nat.zero_testBit] at h1; cases h1
theorem Zdo {φ:Nat→Bool} {c:Cu} (h0:Prime φ (0,0)) (hc:Prime φ c):c=(0,0):=by
 have hall:∀ S,φ S=true:=fun S=>h0.imp S (by rw [Z3X]; exact⟨fun i hi=>(by rw [Nat.zero_testBit] at hi; cases hi),fun i hi=>(by rw [Nat.zero_testBit] at hi; cases hi)⟩)
 have h1:c.1=0:=Nat.eq_of_testBit_eq fun i=>by
  rw [Nat.zero_testBit]
  exact Bool.eq_false_iff.2 fun hi=>hc.yes i hi fun S _=>hall S
 have h2:c.2=0:=Nat.eq_of_testBit_eq fun i=>by
  rw [Nat.zero_testBit]
  exact Bool.eq_false_iff.2 fun hi=>hc.no i hi fun S _=>hall S
 exact Prod.ext h1 h2
section
variable {f:Fm} (m:Made6 f) {l:List Pr} {E:Nat} (hE:E<18446744073709551616) (hmo:monoB (vioL f)=true) (h0:(0,0) ∉ vioL f)
include m hmo
theorem Zfs {c:Cu} (hc:c∈vioL f):c.2=0:=by
 have hp:=(Z4P m.check c).1 hc
 have he:emC c=false:=(Z6J c).2 hp.dis
 unfold monoB at hmo
 rw [Bool.not_eq_true',List.any_eq_false] at hmo
 have:=hmo c hc
 rw [he] at this
 simpa using this
include hE h0
theorem Z7D {out:List Nat} (h:Mins (fun s=>s ||| E=E) (gdR f l E) out):out≠[]:=by
 intro hn
 have h1:=h.nil_iff.1 hn E (Nat.or_self E)
 unfold gdR at h1
 rw [ZaX hE,ZgV,m.hold,Bool.not_eq_false',← ZeP m.check] at h1
 unfold soC at h1
 rw [List.any_eq_true] at h1
 obtain⟨c,hc,hh⟩:=h1
 rw [Z3X] at hh
 have e1:c.1=0:=Nat.eq_of_testBit_eq fun i=>by
  rw [Nat.zero_testBit]
  exact Bool.eq_false_iff.2 fun hi=>by have:=hh.1 i hi; rw [Nat.zero_testBit] at this; cases this
 have e2:=Zfs m hmo hc
 exact h0 (by rw [show ((0,0):Cu)=c from Prod.ext e1.symm e2.symm]; exact hc)
omit h0 in
theorem Zc2 {out:List Nat} (h:Mins (fun s=>s ||| E=E) (gdR f l E) out) {c:Cu} (hc:c∈vioL f) (hh:hoC c (clo l E)=true) {s:Nat} (hs:s∈out):decide (c.1 ||| clo l (minusN E s)=clo l (minusN E s))=false∧decide (clo l s &&& c.1≠0)=true:=by
 have e2:=Zfs m hmo hc
 obtain⟨a1,a2,a3⟩:=(h.iff s).1 hs
 have hs64:=Zfj a1 hE
 unfold gdR at a2
 rw [m.hold,Bool.not_eq_true',← ZeP m.check] at a2
 unfold soC at a2
 rw [List.any_eq_false] at a2
 have h3:¬ c.1 ||| clo l (minusN E s)=clo l (minusN E s):=fun h4=>a2 c hc (by
  unfold hoC
  rw [decide_eq_true h4,e2]
  simp)
 refine⟨decide_eq_false h3,decide_eq_true fun h4=>h3 (orSub.2 fun i hi=>?_)⟩
 refine Classical.byContradiction fun hni=>?_
 have h5:=((Z3X _ _).1 hh).1 i hi
 obtain⟨r,r1,r2,r3⟩:=(Z6E E i hE).1 h5
 by_cases hr:s.testBit r=true
 · have h6 : (clo l s).testBit i = true := (Z6E s i hs64).2 ⟨r, hr, r2, r3⟩
   have:=congrArg (fun z=>Nat.testBit z i) h4
   simp only [Nat.testBit_and,Nat.zero_testBit,h6,hi,Bool.true_and] at this
   cases this
 · exact hni ((Z6E _ i (Z2e s hE)).2 ⟨r,by rw [Z1T hE hs64,r1,Bool.eq_false_iff.2 hr]; rfl,r2,r3⟩)
end
end Go.Proofs.YtjpkfigmmmngnaaGreatDoor
namespace Go.Proofs.YtjpkfigmmmngnaaGreatDoor
open Go.RowKit
attribute [local irreducible] aw opsK dK
noncomputable def hierP (l:List Pr) (S:List Nat):PV:=.cp [.cp (ordC l S)]
theorem Zm (l:List Pr) (S:List Nat):(hierP l S).pure:=⟨Z1j l S,trivial⟩
theorem Z3r:Spec Tryz.prog 47 [] fun r=>∃ S,r=hierP [] S:=by
 refine Z3 ok47 (Nat.le_of_ble_eq_true rfl) fun C hC=>?_
 (refine go ?_;repeat' (apply B<;>intro hb<;>try cases hb))
 refine Zv rfl rfl (Z9w [] true (fun p hp=>by cases hp) List.nodup_nil ⟨fun _=>0,fun p hp=>by cases hp⟩ (by decide)) ⟨trivial,trivial,trivial⟩ rfl ?_
 rintro r ⟨l',o,h1,h2,⟨S',rfl⟩,rfl⟩
 obtain rfl:=List.Perm.eq_nil h1
 (repeat'(first|refine Z5 9 ?_|refine Z1 9 ?_|refine st ?_|(apply B<;>intro hb<;>try cases hb)))<;>try refine At.mk ?_
 refine Z4 rfl rfl rfl ?_
 (refine go ?_;repeat' (apply B<;>intro hb<;>try cases hb))
 exact Z2 rfl (Zm [] S') ⟨S',rfl⟩
theorem Z7E (a:Int):Spec Tryz.prog 102 [.val (.int .i64 a)] (· = .val (.bool (decide (1≤a)&&decide (a≤63)))):=by
 refine Z3 ok102 (Nat.le_of_ble_eq_true rfl) fun C hC=>?_
 (refine go ?_;repeat' (apply B<;>intro hb<;>try cases hb))
 all_goals exact Z2 rfl trivial (by simp_all<;>omega)
theorem Z9F (a:Nat) (h1:1≤a) (h2:a<64):Spec Tryz.prog 102 [.val (.int .i64 (a:Int))] (· = .val (.bool true)):=by
 have:=Z7E (a:Int)
 rwa [decide_eq_true (show (1:Int)≤a by omega),decide_eq_true (show (a:Int)≤63 by omega)] at this
set_option maxHeartbeats 1000000 in
theorem Z6K (l:List Pr) (S:List Nat) (a b:Nat) (ha:1≤a∧a<64) (hb:1≤b∧b<64) (hab:a≠b) (hl:Small l) (hn:l.Nodup) (hno:(a,b) ∉ l) (hacy:Acy (l ++ [(a,b)])) (hlen:l.length≤100000):Spec Tryz.prog 53 [hierP l S,.val (.int .i64 (a:Int)),.val (.int .i64 (b:Int))] fun r=>∃ l' S',l'.Perm (l ++ [(a,b)])∧SortedP l'∧r=.tup [hierP l' S',.val (.int .i64 0)]:=by
 have hne:((a:Int) == (b:Int))=false:=by rw [beq_eq_false_iff_ne]; omega
 refine Z3 ok53 (Nat.le_of_ble_eq_true rfl) fun C hC=>?_
 (refine go ?_;repeat' (apply B<;>intro hb<;>try cases hb))
 refine Z6 (Z9F a ha.1 ha.2) rfl rfl rfl ⟨trivial,trivial⟩ rfl ?_
 (refine go ?_;repeat' (apply B<;>intro hb<;>try cases hb))
 refine Z6 (Z9F b hb.1 hb.2) rfl rfl rfl ⟨trivial,trivial⟩ rfl ?_
 (repeat'(first|refine Z5 25 ?_|refine Z1 25 ?_|refine st ?_|(apply B<;>intro hb<;>try cases hb)))<;>try refine At.mk ?_
 refine Zs rfl ?_
 refine Z7 (ZG rfl hne) rfl rfl ?_
 (refine go ?_;repeat' (apply B<;>intro hb<;>try cases hb))
 refine Zv rfl rfl (Zdh l S a b ha.2 hb.2 hl hn hno hacy hlen) ⟨Z1j l S,trivial,trivial,trivial⟩ rfl ?_
 rintro r ⟨l',o,h1,h2,⟨S',rfl⟩,rfl⟩
 (repeat'(first|refine Z5 42 ?_|refine Z1 42 ?_|refine st ?_|(apply B<;>intro hb<;>try cases hb)))<;>try refine At.mk ?_
 refine Z4 rfl rfl rfl ?_
 (refine go ?_;repeat' (apply B<;>intro hb<;>try cases hb))
 exact Z2 rfl ⟨Zm l' S',trivial,trivial⟩ ⟨l',S',h1,h2,rfl⟩
theorem Z9G (l:List Pr) (S:List Nat) (r:Int):Spec Tryz.prog 61 [hierP l S,.val (.int .i64 r)] (· = setN (if 1≤r∧r≤63 then jun l r.toNat else 0)):=by
 refine Z3 ok61 (Nat.le_of_ble_eq_true rfl) fun C hC=>?_
 (refine go ?_;repeat' (apply B<;>intro hb<;>try cases hb))
 refine Z6 (Z7E r) rfl rfl rfl ⟨trivial,trivial⟩ rfl ?_
 by_cases h:1≤r∧r≤63
 · rw [if_pos h, decide_eq_true h.1, decide_eq_true h.2]
   obtain⟨k,rfl⟩:∃ k:Nat,r=(k:Int):=⟨r.toNat,by omega⟩
   have hk:k<64:=by omega
   have h1:=ZaT l S (k:Int)
   rw [if_pos ⟨by omega,by omega⟩] at h1
   have h2:=Z3h (bel l k) (Nat.le_trans (Z2a (ZeX l k)) (by decide)) (k:Int)
   rw [withN,if_pos ⟨by omega,by omega⟩] at h2
   (refine go ?_;repeat' (apply B<;>intro hb<;>try cases hb))
   refine Z6 h1 rfl rfl rfl ⟨Z1j l S,trivial,trivial⟩ rfl ?_
   (refine go ?_;repeat' (apply B<;>intro hb<;>try cases hb))
   refine Z6 h2 rfl rfl rfl ⟨Z0 _,trivial,trivial⟩ rfl ?_
   (refine go ?_;repeat' (apply B<;>intro hb<;>try cases hb))
   exact Z2 rfl (Z0 _) rfl
 · rw [if_neg h]
   have h2:(decide (1≤r)&&decide (r≤63))=false:=by
    rw [Bool.and_eq_false_iff]
    by_cases h1:1≤r
    · exact .inr (decide_eq_false fun h3=>h ⟨h1,h3⟩)
    · exact .inl (decide_eq_false h1)
   rw [h2]
   (refine go ?_;repeat' (apply B<;>intro hb<;>try cases hb))
   refine Z40 rfl (Z0 0 |> fun h=>by rw [Z2j] at h; exact h) ?_
   rw [Z2j]; rfl
noncomputable def cloL (l:List Pr) (rs:List Nat):Nat:=rs.foldl (fun o r=>if 1≤r then o ||| jun l r else o) 0
theorem Zft (l:List Pr) (rs:List Nat) (r:Nat):cloL l (rs ++ [r])=if 1≤r then cloL l rs ||| jun l r else cloL l rs:=by simp [cloL,List.foldl_append]
set_option maxHeartbeats 2000000 in
theorem Z16 (l:List Pr) (S:List Nat) (s:Nat) (hs:s<18446744073709551616):Spec Tryz.prog 19 [hierP l S,setN s] (· = setN (clo l s)):=by
 refine Z3 ok19 (Nat.le_of_ble_eq_true rfl) fun C hC=>?_
 refine Zj ?_
 refine Z9 ?_
 refine Z4 rfl rfl rfl ?_
 refine Z4 rfl rfl rfl ?_
 (refine go ?_;repeat' (apply B<;>intro hb<;>try cases hb))
 refine Z6 (Z2c s) rfl rfl rfl ⟨Z0 _,trivial⟩ rfl ?_
 (refine go ?_;repeat' (apply B<;>intro hb<;>try cases hb))
 have hhp:=Zm l S
 refine Z3F (X:=List Nat) hC (caps := [.cp [.vec (words (digs s)) false]]) [(2,.cp [hierP l S]),(4,.ptr 0 0 0),(5,.ptr 1 0 0),(8,.fn 70 [.cp [.vec (words (digs s)) false]])]
  (fun z => [(0,⟨1,[[.vec [] true]]⟩),(1,⟨1,[[.vec (words (digs (cloL l z))) false]]⟩)]) rfl ⟨⟨Zc _,trivial⟩,trivial⟩ (Z2V s hs) (fun _=>rfl)
  (fun ex pre z=>ex=.normal∧z=pre.map (·.val)) 2 (by decide) [] ⟨rfl,rfl⟩
  (Z4s (EnvQ.mem (ρ := fun i => i) (m := 2) (L := [(2, .cp [hierP l S]), (4, .ptr 0 0 0), (5, .ptr 1 0 0), (8, .fn 70 [.cp [.vec (words (digs s)) false]])]) ⟨⟨_, rfl, .pure _ ⟨hhp, trivial⟩⟩, ⟨_, rfl, .ptr (ρ := fun i => i) 0 0 0 (by decide)⟩, ⟨_, rfl, .ptr (ρ := fun i => i) 1 0 0 (by decide)⟩, ⟨_, rfl, .pure _ ⟨⟨Zc _, trivial⟩, trivial⟩⟩, trivial⟩)
    (HeapQ.mem (ρ:=fun i=>i) (m:=2) (L := [(0,⟨1,[[.vec [] true]]⟩),(1,⟨1,[[.vec (words (digs (cloL l []))) false]]⟩)]) ⟨⟨by decide,_,rfl,.same _ ⟨⟨trivial,trivial⟩,trivial⟩⟩,⟨by decide,⟨1,[[.vec [] true]]⟩,rfl,by rw [show cloL l []=0 from rfl,Zw]; exact RenB.single (ρ:=fun i=>i) (l0 := [.vec [] true]) (l := [.vec [] false]) (show RenLs _ _ [_] [_] from ⟨.low (.vec [] true) trivial,trivial⟩) rfl⟩,trivial⟩) hC (by decide))
  (fun z q hq=>by simp at hq; rcases hq with rfl|rfl<;>exact Nat.zero_lt_succ _) _ (fun x=>rfl) ?_ ?_ ?_
 · rintro C2 hC2 pre x z ⟨-, rfl⟩ hlen
   have hx64:=Z1D x.2
   have hj:=Z9G l S (x.val:Int)
   have hcz:cloL l (pre.map (·.val))<18446744073709551616:=by
    unfold cloL
    exact ZaS l _ 0 (fun r hr=>by obtain⟨y,_,rfl⟩:=List.mem_map.1 hr; exact Z1D y.2) (by decide)
   have hstep:=Zft l (pre.map (·.val)) x.val
   have hnew:cloL l (pre.map (·.val)) ||| (if 1≤(x.val:Int)∧(x.val:Int)≤63 then jun l (x.val:Int).toNat else 0)=cloL l (pre.map (·.val) ++ [x.val]):=by
    rw [hstep]
    by_cases h1:1≤x.val
    · rw [if_pos h1,if_pos ⟨by omega,by omega⟩]; rfl
    · rw [if_neg h1,if_neg (by omega),Nat.or_zero]
   have hj64:(if 1≤(x.val:Int)∧(x.val:Int)≤63 then jun l (x.val:Int).toNat else 0)<18446744073709551616:=by
    split
    · exact Zf8 l hx64
    · decide
   (refine go ?_;repeat' (apply B<;>intro hb<;>try cases hb))
   refine Zq hj rfl rfl rfl ⟨hhp,trivial,trivial⟩ ?_
   refine Zq (Z3H _ _ hcz hj64) rfl rfl rfl ⟨Z0 _,Z0 _,trivial⟩ ?_
   rw [hnew]
   (refine go ?_;repeat' (apply B<;>intro hb<;>try cases hb))
   exact⟨.inl rfl,pre.map (·.val) ++ [x.val],fun i=>i,⟨rfl,by rw [List.map_append]; rfl⟩,fun i hi=>rfl,ZS,
    ⟨⟨_,rfl,.pure _ ⟨hhp,trivial⟩⟩,⟨_,rfl,.ptr (ρ:=fun i=>i) 0 0 0 (by decide)⟩,⟨_,rfl,.ptr (ρ:=fun i=>i) 1 0 0 (by decide)⟩,⟨_,rfl,.pure _ ⟨⟨Zc _,trivial⟩,trivial⟩⟩,trivial⟩,
    ⟨⟨by decide,_,rfl,.same _ ⟨⟨trivial,trivial⟩,trivial⟩⟩,⟨by decide,_,rfl,.same _ ⟨⟨Zc _,trivial⟩,trivial⟩⟩,trivial⟩⟩
 · rintro xs z hxs ⟨-, rfl⟩
   rw [hxs]
   (refine go ?_;repeat' (apply B<;>intro hb<;>try cases hb))
   exact Z2 rfl (Z0 _) (by rw [Zf9]; rfl)
 · rintro ex pre z - ⟨rfl,_⟩ (h|⟨id,h⟩)<;>cases h
theorem Z6L (N:Nat) (hN:N<18446744073709551616) (i:Nat):Spec Tryz.prog 72 [setN N,.val (.int .i64 (i:Int))] (· = .val (.bool (N.testBit i))):=by
 have:=Z22 N hN (i:Int)
 rwa [decide_eq_true (show (0:Int)≤(i:Int) by omega),Bool.true_and,Int.toNat_natCast] at this
set_option maxHeartbeats 2000000 in
theorem Zdp (k:Nat) (h1:1≤k) (h2:k≤64):Spec Tryz.prog 46 [.val (.int .i64 (k:Int))] (· = setN (2 ^ k-1)):=by
 refine Z3 ok46 (Nat.le_of_ble_eq_true rfl) fun C hC=>?_
 have hq:IntKind.i64.wrap (((k+63:Nat):Int).tdiv 64)=((1:Nat):Int):=by
  rw [IntWalk.i64_quo _ _ ⟨by omega,by omega,by omega⟩]; omega
 (repeat'(first|refine Z5 6 ?_|refine Z1 6 ?_|refine st ?_|(apply B<;>intro hb<;>try cases hb)))<;>try refine At.mk ?_
 refine Zk rfl rfl rfl (v:=(k:Int)) (by split<;>omega) ?_
 refine Zk rfl rfl rfl (v:=(k:Int)) (by split<;>omega) ?_
 (repeat'(first|refine Z5 9 ?_|refine Z1 9 ?_|refine st ?_|(apply B<;>intro hb<;>try cases hb)))<;>try refine At.mk ?_
 refine Zk rfl rfl rfl (show IntKind.i64.wrap ((k:Int)+63)=((k+63:Nat):Int) from IntWalk.i64_in _ ⟨by omega,by omega⟩) ?_
 (repeat'(first|refine Z5 10 ?_|refine Z1 10 ?_|refine st ?_|(apply B<;>intro hb<;>try cases hb)))<;>try refine At.mk ?_
 refine Zk rfl rfl rfl hq ?_
 (refine go ?_;repeat' (apply B<;>intro hb<;>try cases hb))
 refine ZU 1 ?_
 (repeat'(first|refine Z5 22 ?_|refine Z1 22 ?_|refine st ?_|(apply B<;>intro hb<;>try cases hb)))<;>try refine At.mk ?_
 by_cases hk:k=64
 · subst hk
   repeat' (first|refine Zf (Zn (k:=33) rfl rfl (ZQ rfl)) ?_|(first|refine st ?_|(apply B<;>intro hb<;>try cases hb)))
   exact Z2 rfl (Z2y rfl) (by rw [Z3G (by decide) (by decide)]; rfl)
 · have hr : (k : Int).tmod 64 = ((k : Nat) : Int) := by rw [Int.tmod_eq_emod_of_nonneg (by omega)]; omega
   refine Zk rfl rfl rfl hr ?_
   refine Z7 (ZG (v:=true) rfl (by simp;omega)) rfl rfl ?_
   (repeat'(first|refine Z5 29 ?_|refine Z1 29 ?_|refine st ?_|(apply B<;>intro hb<;>try cases hb)))<;>try refine At.mk ?_
   refine Zk rfl rfl rfl hr ?_
   refine Z7 (Zea rfl rfl (by omega) (v:=((2 ^ k:Nat):Int)) (by
    rw [show min ((k:Int)).toNat IntKind.u64.bits=k by simp [IntKind.bits]; omega]
    have hp:=Z17 (show k<64 by omega)
    rw [Int.one_mul,show (2:Int) ^ k=((2 ^ k:Nat):Int) by simp]
    exact IntWalk.u64_in _ ⟨Int.natCast_nonneg _,Int.ofNat_le.2 (show _≤18446744073709551615 by omega)⟩)) rfl rfl ?_
   refine Zk rfl rfl rfl (v:=((2 ^ k-1:Nat):Int)) (by
    have hp:=Z17 (show k<64 by omega)
    have:=Nat.two_pow_pos k
    rw [show ((2 ^ k:Nat):Int)-1=((2 ^ k-1:Nat):Int) by omega]
    exact IntWalk.u64_in _ ⟨Int.natCast_nonneg _,Int.ofNat_le.2 (show _≤18446744073709551615 by omega)⟩) ?_
   have hp:=Z17 (show k<64 by omega)
   have hp2:2≤2 ^ k:=Nat.pow_le_pow_right (n:=2) (by decide) h1
   repeat' (first|refine Zf (Zn (k:=33) rfl rfl (ZQ rfl)) ?_|(first|refine st ?_|(apply B<;>intro hb<;>try cases hb)))
   exact Z2 rfl (Z2y rfl) (by rw [Z3G (by omega) (by omega)]; rfl)
theorem Zc3 (a b:Nat) (ha:a<18446744073709551616) (hb:b<18446744073709551616):bits .and .u64 (a:Int) (b:Int)=((a &&& b:Nat):Int):=by
 have h1:(BitVec.ofInt 64 (a:Int)).toNat=a:=by rw [BitVec.ofInt_natCast,BitVec.toNat_ofNat]; exact Nat.mod_eq_of_lt (by omega)
 have h2:(BitVec.ofInt 64 (b:Int)).toNat=b:=by rw [BitVec.ofInt_natCast,BitVec.toNat_ofNat]; exact Nat.mod_eq_of_lt (by omega)
 show IntKind.u64.wrap ((BitVec.ofInt 64 (a:Int) &&& BitVec.ofInt 64 (b:Int)).toNat:Int)=_
 rw [BitVec.toNat_and,h1,h2]
 have:a &&& b≤a:=Nat.and_le_left
 exact IntWalk.u64_in _ ⟨by omega,by omega⟩
set_option maxHeartbeats 2000000 in
theorem Z30 (N M:Nat) (hN:N<18446744073709551616) (hM:M<18446744073709551616):Spec Tryz.prog 25 [setN N,setN M] (· = setN (minusN N M)):=by
 have hlt:=Z2e M hN
 have hz:∀ M,minusN 0 M=0:=fun M=>Nat.le_zero.1 Nat.and_le_left
 have fin:∀ {r:PV} {x:Nat},x<18446744073709551616→IsTrim [x] r→r=setN x:=fun {r x} hx hr=>by
  have e1:=hr.set (fun y hy=>by rw [List.mem_singleton.1 hy]; exact hx)
  have e2:ofW [x]=x:=by simp [ofW]
  rw [e2] at e1
  exact e1
 rcases Z19 hN with⟨rfl,e1⟩|⟨h1,e1⟩<;>rcases Z19 hM with⟨rfl,e2⟩|⟨h2,e2⟩<;>rw [e1]<;>(try rw [e2])<;>clear e1 e2
 all_goals
  refine Z3 ok25 (Nat.le_of_ble_eq_true rfl) fun C hC=>?_
  refine Zj ?_
  refine Z9 ?_
  refine Z4 rfl rfl rfl ?_
  refine Z4 rfl rfl rfl ?_
  (refine go ?_;repeat' (apply B<;>intro hb<;>try cases hb))
  refine ZU 1 ?_
 · repeat' (first | refine Zf (Zn (k := 29) rfl rfl (ZQ rfl)) ?_ | (first|refine st ?_|(apply B<;>intro hb<;>try cases hb)))
   refine Zv rfl rfl (Z3c []) (ZY rfl) rfl fun r hr=>?_
   have e1:=hr.set (fun x hx=>by cases hx)
   subst e1
   (refine go ?_;repeat' (apply B<;>intro hb<;>try cases hb))
   exact Z2 rfl (Z0 _) (show setN (ofW [])=_ by rw [hz]; simp [ofW])
 · repeat' (first | refine Zf (Zn (k := 29) rfl rfl (ZQ rfl)) ?_ | (first|refine st ?_|(apply B<;>intro hb<;>try cases hb)))
   refine Zv rfl rfl (Z3c []) (ZY rfl) rfl fun r hr=>?_
   have e1:=hr.set (fun x hx=>by cases hx)
   subst e1
   (refine go ?_;repeat' (apply B<;>intro hb<;>try cases hb))
   exact Z2 rfl (Z0 _) (show setN (ofW [])=_ by rw [hz]; simp [ofW])
 · (repeat'(first|refine Z5 25 ?_|refine Z1 25 ?_|refine st ?_|(apply B<;>intro hb<;>try cases hb)))<;>try refine At.mk ?_
   refine Zq (Z12 [] 0) rfl rfl rfl (ZY rfl) ?_
   refine Zu (Z4t rfl (Z1p N 0 hN hM)) rfl rfl ?_
   repeat' (first|refine Zf (Zn (k:=29) rfl rfl (ZQ rfl)) ?_|(first|refine st ?_|(apply B<;>intro hb<;>try cases hb)))
   refine Zv rfl rfl (Z3c [minusN N 0]) (ZY rfl) rfl fun r hr=>?_
   obtain rfl:=fin hlt hr
   (refine go ?_;repeat' (apply B<;>intro hb<;>try cases hb))
   exact Z2 rfl (Z0 _) rfl
 · (repeat'(first|refine Z5 25 ?_|refine Z1 25 ?_|refine st ?_|(apply B<;>intro hb<;>try cases hb)))<;>try refine At.mk ?_
   refine Zq (Z12 [M] 0) rfl rfl rfl (ZY rfl) ?_
   refine Zu (Z4t rfl (Z1p N M hN hM)) rfl rfl ?_
   repeat' (first|refine Zf (Zn (k:=29) rfl rfl (ZQ rfl)) ?_|(first|refine st ?_|(apply B<;>intro hb<;>try cases hb)))
   refine Zv rfl rfl (Z3c [minusN N M]) (ZY rfl) rfl fun r hr=>?_
   obtain rfl:=fin hlt hr
   (refine go ?_;repeat' (apply B<;>intro hb<;>try cases hb))
   exact Z2 rfl (Z0 _) rfl
theorem ZaY (N:Nat) (f:Fm) (m:Made6 f):Spec Tryz.prog 18 [.agg (fC .u8 f),setN N,.vec [] true] (· = .val (.bool (holdB f N))):=by
 have hd:=m.depth
 have hs:=m.size
 have:=ZcI N [] true f (by omega) (by omega)
 have e:typeOfE f=0∧typeOfT f=1:=by
  unfold typeOfE typeOfT
  rw [if_neg (by omega),if_pos m.wf.1,if_pos m.wf.2,if_neg (by omega),if_pos m.wf.1,if_pos m.wf.2]
  exact⟨rfl,m.ty⟩
 rw [e.1,e.2] at this
 exact this
def HoldsW (f:Fm):Prop:=∀ N,Spec Tryz.prog 18 [.agg (fC .u8 f),setN N,.vec [] true] (· = .val (.bool (holdB f N)))
theorem Made6.holdsW {f:Fm} (m:Made6 f):HoldsW f:=fun N=>ZaY N f m
theorem Z7F (f:Fm) (hd:f.depth≤1000) (hsz:f.size≤1099511627776) (l:List Pr) (S:List Nat) (s:Nat) (hs:s<18446744073709551616) (h0:s.testBit 0=false):Spec Tryz.prog 62 [.agg (fC .u8 f),hierP l S,setN s] (· = .val (.int .i64 (checkM f))):=by
 have hw:decide (s ||| (2 ^ 64-1)=2 ^ 64-1)=true:=decide_eq_true (orSub.2 fun i hi=>by
  have:i<64:=Nat.lt_of_not_le fun h8=>by
   rw [Nat.testBit_lt_two_pow (Nat.lt_of_lt_of_le hs (Nat.pow_le_pow_right (n:=2) (by decide) h8))] at hi; cases hi
  rw [Nat.testBit_two_pow_sub_one,decide_eq_true this])
 have hh:=Z67 s 0 (by decide) (by decide)
 rw [show (0:Int).toNat=0 from rfl,h0] at hh
 have hh0:=Z44 s (2 ^ 64-1) hs (by decide)
 rw [hw] at hh0
 refine Z3 ok62 (Nat.le_of_ble_eq_true rfl) fun C hC=>?_
 refine Zj ?_
 refine Z9 ?_
 refine Z4 rfl rfl rfl ?_
 refine Z4 rfl rfl rfl ?_
 (refine go ?_;repeat' (apply B<;>intro hb<;>try cases hb))
 refine Zq hh rfl rfl rfl ⟨Z0 s,trivial,trivial⟩ ?_
 (refine go ?_;repeat' (apply B<;>intro hb<;>try cases hb))
 refine Zq (Zdp 64 (by decide) (by decide)) rfl rfl rfl ⟨trivial,trivial⟩ ?_
 (refine go ?_;repeat' (apply B<;>intro hb<;>try cases hb))
 refine Zq hh0 rfl rfl rfl ⟨Z0 s,Z0 _,trivial⟩ ?_
 (refine go ?_;repeat' (apply B<;>intro hb<;>try cases hb))
 refine Z6 (Z3N f hd hsz) rfl rfl rfl ⟨Zh _ _,trivial,trivial⟩ rfl ?_
 (refine go ?_;repeat' (apply B<;>intro hb<;>try cases hb))
 exact Z2 rfl trivial rfl
theorem Z8E {f:Fm} (m:HoldsW f) (l:List Pr) (S:List Nat) (E s:Nat) (hE:E<18446744073709551616) (hs:s<18446744073709551616):Spec Tryz.prog 65 [setN s,.cp (fC .u8 f),.cp [hierP l S],.cp [.vec (words (digs E)) false]] (· = .val (.bool (gdR f l E s))):=by
 have hp:pureL [PV.vec (words (digs E)) false]:=⟨Zc _,trivial⟩
 refine Z3 ok65 (Nat.le_of_ble_eq_true rfl) fun C hC=>?_
 refine Zj ?_
 refine Z9 ?_
 refine Z4 rfl rfl rfl ?_
 (refine go ?_;repeat' (apply B<;>intro hb<;>try cases hb))
 refine Zq (Z30 E s hE hs) rfl rfl rfl ⟨Z0 _,Z0 _,trivial⟩ ?_
 refine Zq (Z16 l S _ (Z2e s hE)) rfl rfl rfl ⟨Zm l S,Z0 _,trivial⟩ ?_
 refine Zq (m (clo l (minusN E s))) rfl rfl rfl ⟨Zh _ _,Z0 _,trivial,trivial⟩ ?_
 rw [show holdB f (clo l (minusN E s))=gdR f l E s from rfl]
 generalize gdR f l E s=v
 cases v
 all_goals
  (refine go ?_;repeat' (apply B<;>intro hb<;>try cases hb))
  exact Z2 rfl trivial rfl
theorem Z6M {f:Fm} (m:HoldsW f) (l:List Pr) (S:List Nat) (E s:Nat) (hE:E<18446744073709551616) (hs:s<18446744073709551616):Spec Tryz.prog 66 [setN s,.cp (fC .u8 f),.cp [hierP l S],.cp [.vec (words (digs E)) false]] (· = .val (.bool (gdA f l E s))):=by
 refine Z3 ok66 (Nat.le_of_ble_eq_true rfl) fun C hC=>?_
 refine Zj ?_
 refine Z9 ?_
 refine Z4 rfl rfl rfl ?_
 (refine go ?_;repeat' (apply B<;>intro hb<;>try cases hb))
 refine Zq (Z3H E s hE hs) rfl rfl rfl ⟨Z0 _,Z0 _,trivial⟩ ?_
 refine Zq (Z16 l S _ (Z3i hE hs)) rfl rfl rfl ⟨Zm l S,Z0 _,trivial⟩ ?_
 refine Zq (m (clo l (E ||| s))) rfl rfl rfl ⟨Zh _ _,Z0 _,trivial,trivial⟩ ?_
 rw [show holdB f (clo l (E ||| s))=gdA f l E s from rfl]
 generalize gdA f l E s=v
 cases v
 all_goals
  (refine go ?_;repeat' (apply B<;>intro hb<;>try cases hb))
  exact Z2 rfl trivial rfl
end Go.Proofs.YtjpkfigmmmngnaaGreatDoor
namespace Go.Proofs.YtjpkfigmmmngnaaGreatDoor
open Go.Shelf
def Z31:Go.Shelf.Ren:=⟨fun|6=>115|15=>153|14=>152|28=>181|29=>182|20=>173|21=>174|22=>175|23=>176|24=>177|25=>178|26=>179|27=>180|46=>211|47=>212|48=>213|49=>214|50=>215|57=>227|n=>n,fun|22=>47|24=>42|25=>174|3=>3|39=>168|0=>0|53=>238|55=>23|4=>4|46=>231|45=>230|50=>235|5=>5|9=>9|66=>262|70=>266|76=>275|77=>192|n=>n,fun|n=>n⟩
theorem sortSet:Go.Proofs.SlLaysF0.n6 Tryz.prog Z31:={
 mixed:=by kernel_rfl
 f6:=⟨Tryz.f115.name,by decide,Tryz.func115.trans (congrArg some (by kernel_rfl))⟩
 f14:=⟨Tryz.f152.name,by decide,Tryz.func152.trans (congrArg some (by kernel_rfl))⟩
 f15:=Tryz.func153.trans (congrArg some (by kernel_rfl))
 f20:=⟨Tryz.f173.name,by decide,Tryz.func173.trans (congrArg some (by kernel_rfl))⟩
 f21:=⟨Tryz.f174.name,by decide,Tryz.func174.trans (congrArg some (by kernel_rfl))⟩
 f22:=⟨Tryz.f175.name,by decide,Tryz.func175.trans (congrArg some (by kernel_rfl))⟩
 f23:=⟨Tryz.f176.name,by decide,Tryz.func176.trans (congrArg some (by kernel_rfl))⟩
 f24:=⟨Tryz.f177.name,by decide,Tryz.func177.trans (congrArg some (by kernel_rfl))⟩
 f25:=⟨Tryz.f178.name,by decide,Tryz.func178.trans (congrArg some (by kernel_rfl))⟩
 f26:=⟨Tryz.f179.name,by decide,Tryz.func179.trans (congrArg some (by kernel_rfl))⟩
 f27:=⟨Tryz.f180.name,by decide,Tryz.func180.trans (congrArg some (by kernel_rfl))⟩
 f28:=Tryz.func181.trans (congrArg some (by kernel_rfl))
 f29:=Tryz.func182.trans (congrArg some (by kernel_rfl))
 f46:=⟨Tryz.f211.name,by decide,Tryz.func211.trans (congrArg some (by kernel_rfl))⟩
 f47:=Tryz.func212.trans (congrArg some (by kernel_rfl))
 f48:=Tryz.func213.trans (congrArg some (by kernel_rfl))
 f49:=⟨Tryz.f214.name,by decide,Tryz.func214.trans (congrArg some (by kernel_rfl))⟩
 f50:=⟨Tryz.f215.name,by decide,Tryz.func215.trans (congrArg some (by kernel_rfl))⟩
 f57:=⟨Tryz.f227.name,by decide,Tryz.func227.trans (congrArg some (by kernel_rfl))⟩
 t0:=Tryz.underlying0
 a0:=Tryz.isAgg0
 z0:=Tryz.sizeOf0
 v0:=Tryz.zeroValue0
 t3:=Tryz.underlying3
 a3:=Tryz.isAgg3
 z3:=Tryz.sizeOf3
 v3:=Tryz.zeroValue3
 t4:=Tryz.underlying4
 a4:=Tryz.isAgg4
 z4:=Tryz.sizeOf4
 v4:=Tryz.zeroValue4
 t5:=Tryz.underlying5
 a5:=Tryz.isAgg5
 z5:=Tryz.sizeOf5
 v5:=Tryz.zeroValue5
 t9:=Tryz.underlying9
 a9:=Tryz.isAgg9
 z9:=Tryz.sizeOf9
 v9:=Tryz.zeroValue9
 t22:=Tryz.underlying47
 a22:=Tryz.isAgg47
 z22:=Tryz.sizeOf47
 v22:=Tryz.zeroValue47
 t25:=Tryz.underlying174
 a25:=Tryz.isAgg174
 z25:=Tryz.sizeOf174
 v25:=Tryz.zeroValue174
 t39:=Tryz.underlying168
 a39:=Tryz.isAgg168
 z39:=Tryz.sizeOf168
 v39:=Tryz.zeroValue168
 t45:=Tryz.underlying230
 a45:=Tryz.isAgg230
 z45:=Tryz.sizeOf230
 v45:=Tryz.zeroValue230
 t46:=Tryz.underlying231
 a46:=Tryz.isAgg231
 z46:=Tryz.sizeOf231
 v46:=Tryz.zeroValue231
 t50:=Tryz.underlying235
 a50:=Tryz.isAgg235
 z50:=Tryz.sizeOf235
 v50:=Tryz.zeroValue235
 t53:=Tryz.underlying238
 a53:=Tryz.isAgg238
 z53:=Tryz.sizeOf238
 v53:=Tryz.zeroValue238
 t55:=Tryz.underlying23
 a55:=Tryz.isAgg23
 z55:=Tryz.sizeOf23
 v55:=Tryz.zeroValue23
 t66:=Tryz.underlying262
 a66:=Tryz.isAgg262
 z66:=Tryz.sizeOf262
 v66:=Tryz.zeroValue262
 t70:=Tryz.underlying266
 a70:=Tryz.isAgg266
 z70:=Tryz.sizeOf266
 v70:=Tryz.zeroValue266
 t76:=Tryz.underlying275
 a76:=Tryz.isAgg275
 z76:=Tryz.sizeOf275
 v76:=Tryz.zeroValue275
 t77:=Tryz.underlying192
 a77:=Tryz.isAgg192
 z77:=Tryz.sizeOf192
 v77:=Tryz.zeroValue192 }
theorem ZaZ:∀ w,(isAgg (Z31.t 24)).run Tryz.prog w=.ok true w:=Tryz.isAgg42
theorem Z9H:∀ w,(Go.sizeOf (Z31.t 24)).run Tryz.prog w=.ok 1 w:=Tryz.sizeOf42
end Go.Proofs.YtjpkfigmmmngnaaGreatDoor
namespace Go.Proofs.YtjpkfigmmmngnaaGreatDoor
open Go.RowKit
attribute [local irreducible] aw opsK dK
def stC (s:Nat):List PV := [.vec (words (digs s)) false]
theorem Z5S (s:Nat):pureL (stC s):=⟨Zc _,trivial⟩
def seL (l:List Nat):List (List PV):=l.map stC
theorem Z1h (l:List Nat):pureLL (seL l):=Z1P (enc:=stC) Z5S l
theorem Zb0 (l:List Nat):(seL l).length=l.length:=by simp [seL]
abbrev S64:={ s:Nat // s<18446744073709551616 }
theorem allS64 {xs:List Nat} (h:∀ c∈xs,c<18446744073709551616):∃ l:List S64,l.map (·.1)=xs:=by
 induction xs with
 | nil=>exact⟨[],rfl⟩
 | cons c xs ih =>
   obtain⟨l,hl⟩:=ih fun d hd=>h d (List.mem_cons_of_mem _ hd)
   exact⟨⟨c,h c (List.mem_cons_self ..)⟩ :: l,by rw [List.map_cons,hl]⟩
theorem Zb1 {n ob:Nat} {h:Heap} (xs:List Nat) (hx:∀ c∈xs,c<18446744073709551616) (hh:h ob=some ⟨1,seL xs⟩) :
 ISpec Tryz.prog 115 n [.own ob,.fn 116 []] h fun n' r h'=>n'=n∧r=.tup []∧∃ ys:List Nat,ys.Perm xs∧SortedK ys∧h'=h.upd ob ⟨1,seL ys⟩:=by
 obtain⟨l,rfl⟩:=allS64 hx
 have e:∀ l:List S64,seL (l.map (·.1))=l.map fun c:S64=>stC c.1:=fun l=>by unfold seL; rw [List.map_map]; rfl
 rw [e] at hh
 have hs:=Z5g (P:=Tryz.prog) (ρ:=Z31) (n:=n) sortSet ⟨_,Tryz.func115,by kernel_rfl,by kernel_rfl⟩ 1 (by decide) ZaZ Z9H (fun c:S64=>stC c.1) (fun c=>rfl) (fun c=>Z5S c.1) (fun c:S64=>key c.1) (fun a b:S64=>sgnI (key a.1) (key b.1)) (fun a b=>ZbH) 116 [] trivial (fun a b=>Z2X a.1 b.1 a.2 b.2) l hh
 refine hs.mono ?_
 rintro n' r h' ⟨h1,h2,ys,h3,h4,h5⟩
 refine⟨h1,h2,ys.map (·.1),h3.map _,?_,by rw [e]; exact h5⟩
 exact List.pairwise_map.2 h4
theorem Z6N (l:List Nat):(intsN l).length=l.length:=by simp [intsN]
theorem Zb2 (good:Nat→Bool) (a:Nat) (r:List Nat) (s:Nat):smStep good (a :: r) s=if popK 64 a<popK 64 s then a :: r else if good s then (if popK 64 s<popK 64 a then [s] else a :: r ++ [s]) else a :: r:=rfl
inductive SmR (E:Nat) (good:Nat→Bool):PV→Prop
 | many (h:12<popK 64 E):SmR E good (.tup [.vec [] true,.val (.int .i64 3)])
 | found (h:popK 64 E≤12) (out:List Nat) (fl:Bool) (hm:Mins (fun s=>s ||| E=E) good out) (hs:SortedK out):SmR E good (.tup [.vec (seL out) fl,.val (.int .i64 (if out = [] then 4 else 0))])
set_option maxHeartbeats 16000000 in
theorem Z3Y {E:Nat} (hE:E<18446744073709551616) {g:Nat} {caps:List PV} (hc:pureL caps) {good:Nat→Bool} (hg:∀ s,s<18446744073709551616→Spec Tryz.prog g (setN s :: caps) (· = .val (.bool (good s)))):Spec Tryz.prog 63 [.vec (nums (intsN (mem E))) false,.fn g caps] (SmR E good):=by
 have hcp:∀ D,innL D caps:=fun D=>Zx (fun _ h=>h.elim) _ hc
 have hL:(nums (intsN (mem E))).length=(mem E).length:=by rw [ZO,Z6N]
 have hpk:=ZbM E
 refine Z3 ok63 (Nat.le_of_ble_eq_true rfl) fun C hC=>?_
 (repeat'(first|refine Z5 13 ?_|refine Z1 13 ?_|refine st ?_|(apply B<;>intro hb<;>try cases hb)))<;>try refine At.mk ?_
 refine Zg rfl rfl rfl (fun hb=>?_) (fun hb=>?_)
 · have hmany : 12 < popK 64 E := by have := of_decide_eq_true hb; rw [hL] at this; omega
   (refine go ?_;repeat' (apply B<;>intro hb<;>try cases hb))
   exact Z2 rfl ⟨trivial,trivial,trivial⟩ (.many hmany)
 have hle:popK 64 E≤12:=by have:=of_decide_eq_false hb; rw [hL] at this; omega
 clear hb
 have hn12:(mem E).length≤12:=by omega
 have hpw:2 ^ (mem E).length≤4096:=Nat.le_trans (Nat.pow_le_pow_right (by decide) hn12) (by decide)
 have h16:IntKind.i64.wrap (1*2 ^ (min (((nums (intsN (mem E))).length:Nat):Int).toNat IntKind.i64.bits))=((2 ^ (mem E).length:Nat):Int):=by
  rw [hL]; exact shl1 _ (by omega)
 repeat' (first|refine Zf (Z10 (k:=6) rfl 1 (by decide)) ?_|(first|refine st ?_|(apply B<;>intro hb<;>try cases hb)))
 refine Z1R hC (fun m=>m≤2 ^ (mem E).length) (fun m=>2 ^ (mem E).length-m) 1 (fun m => [(0,.vec (nums (intsN (mem E))) false),(1,.fn g caps),(6,.own 0),(16,.val (.int .i64 ((2 ^ (mem E).length:Nat):Int))),(17,.val (.int .i64 (m:Int)))]) (fun m => [(0,⟨1,seL (smAll (mem E) good m)⟩)]) (by omega) 0 (Nat.zero_le _) (fun i=>i) (fun _ _=>rfl) ZS
  ⟨⟨_,rfl,.pure _ (Za _)⟩,⟨_,rfl,.pure _ hc⟩,⟨_,rfl,.own 0 (by decide)⟩,⟨_,by rw [← h16]; rfl,.pure _ trivial⟩,⟨_,rfl,.pure _ trivial⟩,trivial⟩ ⟨⟨by omega,_,rfl,.same _ trivial⟩,trivial⟩ ?_
 intro m hm
 have hinc:IntKind.i64.wrap ((m:Int)+1)=((m+1:Nat):Int):=IntWalk.i64_in _ ⟨by omega,by omega⟩
 (repeat'(first|refine Z5 18 ?_|refine Z1 18 ?_|refine st ?_|(apply B<;>intro hb<;>try cases hb)))<;>try refine At.mk ?_
 refine Zg rfl rfl rfl (fun hb=>?_) (fun hb=>?_)
 · have hml : m < 2 ^ (mem E).length := by have := of_decide_eq_true hb; omega
   clear hb
   (refine go ?_;repeat' (apply B<;>intro hb<;>try cases hb))
   refine Z1R hC (fun k=>k≤(mem E).length) (fun k=>(mem E).length-k) 2 (fun k => [(0,.vec (nums (intsN (mem E))) false),(1,.fn g caps),(6,.own 0),(7,.val (.int .i64 (m:Int))),(8,.ptr 1 0 0),(16,.val (.int .i64 ((2 ^ (mem E).length:Nat):Int))),(17,.val (.int .i64 (m:Int))),(20,.vec (nums (intsN (mem E))) false),(21,.val (.int .i64 ((mem E).length:Int))),(22,.val (.int .i64 (k:Int)))])
    (fun k => [(0,⟨1,seL (smAll (mem E) good m)⟩),(1,⟨1,[stC (subM ((mem E).take k) m)]⟩)]) (by omega) 0 (Nat.zero_le _) (fun i=>i) (fun _ _=>rfl) ZS
    ⟨⟨_,rfl,.pure _ (Za _)⟩,⟨_,rfl,.pure _ hc⟩,⟨_,rfl,.own 0 (by decide)⟩,⟨_,rfl,.pure _ trivial⟩,⟨_,rfl,.ptr (ρ:=fun i=>i) 1 0 0 (by decide)⟩,⟨_,rfl,.pure _ trivial⟩,⟨_,rfl,.pure _ trivial⟩,⟨_,rfl,.pure _ (Za _)⟩,⟨_,by rw [← hL]; rfl,.pure _ trivial⟩,⟨_,rfl,.pure _ trivial⟩,trivial⟩
    ⟨⟨by decide,_,rfl,.same _ (Z1h _)⟩,⟨by decide,⟨1,[[.vec [] true]]⟩,rfl,by rw [List.take_zero,show stC (subM [] m) = [.vec [] false] by (show [PV.vec (words (digs 0)) false]=_; rw [Zw]; rfl)]; exact RenB.single (ρ:=fun i=>i) (l0 := [.vec [] true]) (l := [.vec [] false]) (show RenLs _ _ [_] [_] from ⟨.low (.vec [] true) trivial,trivial⟩) rfl⟩,trivial⟩ ?_
   intro k hk
   have hkinc:IntKind.i64.wrap ((k:Int)+1)=((k+1:Nat):Int):=IntWalk.i64_in _ ⟨by omega,by omega⟩
   have nextK:∀ {v:PV},v=.agg (stC (subM ((mem E).take (k+1)) m))→v=.agg (stC (subM ((mem E).take (k+1)) m)):=fun h=>h
   (repeat'(first|refine Z5 23 ?_|refine Z1 23 ?_|refine st ?_|(apply B<;>intro hb<;>try cases hb)))<;>try refine At.mk ?_
   refine Zg rfl rfl rfl (fun hb=>?_) (fun hb=>?_)
   · have hkl : k < (mem E).length := by have := of_decide_eq_true hb; omega
     clear hb
     have hget : (intsN (mem E))[k]'(by rw [Z6N]; exact hkl) = (((mem E)[k] : Nat) : Int) := by simp [intsN]
     have hsn:=Z9z ((mem E).take k) (mem E)[k] m
     rw [← Z7A hkl,List.length_take,Nat.min_eq_left (Nat.le_of_lt hkl)] at hsn
     have hr64:=Z1D (List.getElem_mem hkl)
     have hcur:subM ((mem E).take k) m<18446744073709551616:=Zfj (n:=18446744073709551616) (fr:=E) (orSub.2 fun i hi=>by
      obtain⟨j,hj,h1,_⟩:=(Z50 _ _ _).1 hi
      exact (Z1O hE).1 (h1▸List.mem_of_mem_take (List.getElem_mem hj))) hE
     have hand:bits .and .i64 ((m / 2 ^ k:Nat):Int) 1=((m / 2 ^ k % 2:Nat):Int):=by
      rw [show (1:Int)=((1:Nat):Int) from rfl,Z8e _ 1 (Nat.lt_of_le_of_lt (Nat.div_le_self _ _) (by omega)) (by decide),Nat.and_one_is_mod]
     (refine go ?_;repeat' (apply B<;>intro hb<;>try cases hb))
     refine Z7 (Zl (xs:=intsN (mem E)) (g:=fun x => [.val (.int .i64 x)]) rfl rfl k rfl (by rw [Z6N]; exact hkl) rfl) rfl rfl ?_
     rw [hget]
     generalize (mem E)[k]=q at hsn hr64 ⊢
     (repeat'(first|refine Z5 29 ?_|refine Z1 29 ?_|refine st ?_|(apply B<;>intro hb<;>try cases hb)))<;>try refine At.mk ?_
     refine Zk rfl rfl rfl (Z3g m k (by omega)) ?_
     refine Zk rfl rfl rfl hand ?_
     refine Z1J rfl rfl rfl (Z7k m k) ?_
     cases hbit:m.testBit k with
     | false =>
       rw [hbit,if_neg (by decide),Nat.or_zero] at hsn
       (refine go ?_;repeat' (apply B<;>intro hb<;>try cases hb))
       exact⟨k+1,fun i=>i,hkl,by omega,fun _ _=>rfl,ZS,⟨⟨_,rfl,.pure _ (Za _)⟩,⟨_,rfl,.pure _ hc⟩,⟨_,rfl,.own 0 (by decide)⟩,⟨_,rfl,.pure _ trivial⟩,⟨_,rfl,.ptr (ρ:=fun i=>i) 1 0 0 (by decide)⟩,⟨_,rfl,.pure _ trivial⟩,⟨_,rfl,.pure _ trivial⟩,⟨_,rfl,.pure _ (Za _)⟩,⟨_,rfl,.pure _ trivial⟩,⟨_,by show some _=some _; rw [hkinc],.pure _ trivial⟩,trivial⟩,
        ⟨⟨by decide,_,rfl,.same _ (Z1h _)⟩,⟨by decide,_,rfl,by rw [hsn]; exact .same _ ⟨Z5S _,trivial⟩⟩,trivial⟩⟩
     | true =>
       rw [hbit,if_pos rfl] at hsn
       have hws:=Z3h (subM ((mem E).take k) m) (Nat.le_trans (Z2a hcur) (by decide)) (q:Int)
       rw [withN,if_pos ⟨by omega,by omega⟩,Int.toNat_natCast,← hsn] at hws
       (refine go ?_;repeat' (apply B<;>intro hb<;>try cases hb))
       refine Z6 hws rfl rfl rfl ⟨Z0 _,trivial,trivial⟩ rfl ?_
       (refine go ?_;repeat' (apply B<;>intro hb<;>try cases hb))
       exact⟨k+1,fun i=>i,hkl,by omega,fun _ _=>rfl,ZS,⟨⟨_,rfl,.pure _ (Za _)⟩,⟨_,rfl,.pure _ hc⟩,⟨_,rfl,.own 0 (by decide)⟩,⟨_,rfl,.pure _ trivial⟩,⟨_,rfl,.ptr (ρ:=fun i=>i) 1 0 0 (by decide)⟩,⟨_,rfl,.pure _ trivial⟩,⟨_,rfl,.pure _ trivial⟩,⟨_,rfl,.pure _ (Za _)⟩,⟨_,rfl,.pure _ trivial⟩,⟨_,by show some _=some _; rw [hkinc],.pure _ trivial⟩,trivial⟩,
        ⟨⟨by decide,_,rfl,.same _ (Z1h _)⟩,⟨by decide,_,rfl,.same _ ⟨Z5S _,trivial⟩⟩,trivial⟩⟩
   · have hkl : k = (mem E).length := by have := of_decide_eq_false hb; omega
     subst hkl
     rw [List.take_length]
     clear hb
     have hst:smAll (mem E) good (m+1)=smStep good (smAll (mem E) good m) (subM (mem E) m):=rfl
     have hs64:=Zfr (m:=m) hE
     have hout:=Z8D hE good m
     have hol:=Z9E (mem E) good m
     generalize subM (mem E) m=s at hst hs64 ⊢
     generalize smAll (mem E) good m=out at hst hout hol ⊢
     cases out with
     | nil =>
       (refine go ?_;repeat' (apply B<;>intro hb<;>try cases hb))
       refine Zq (hg s hs64) rfl rfl rfl ⟨Z0 _,hc⟩ ?_
       cases hgs:good s with
       | false =>
         have hstep:smStep good [] s = []:=by unfold smStep; rw [hgs]; rfl
         (refine go ?_;repeat' (apply B<;>intro hb<;>try cases hb))
         exact⟨m+1,(fun i=>i),by omega,by omega,fun j hj=>absurd hj (Nat.not_lt_zero _),ZH rfl,⟨⟨_,rfl,.pure _ (Za _)⟩,⟨_,rfl,.pure _ hc⟩,⟨_,rfl,.own (ρ:=(fun i=>i)) 0 (by decide)⟩,⟨_,rfl,.pure _ trivial⟩,⟨_,by show some _=some _; rw [hinc],.pure _ trivial⟩,trivial⟩,⟨⟨by decide,_,rfl,by rw [hst,hstep]; exact .same _ (Z1h _)⟩,trivial⟩⟩
       | true =>
         have hstep:smStep good [] s = [s]:=by unfold smStep; rw [hgs]; rfl
         (refine go ?_;repeat' (apply B<;>intro hb<;>try cases hb))
         exact⟨m+1,mv 0 32,by omega,by omega,fun j hj=>absurd hj (Nat.not_lt_zero _),ZH rfl,⟨⟨_,rfl,.pure _ (Za _)⟩,⟨_,rfl,.pure _ hc⟩,⟨_,rfl,.own (ρ:=mv 0 32) 0 (by decide)⟩,⟨_,rfl,.pure _ trivial⟩,⟨_,by show some _=some _; rw [hinc],.pure _ trivial⟩,trivial⟩,⟨⟨by decide,_,rfl,by rw [hst,hstep]; exact .same ⟨1,seL [s]⟩ (Z1h [s])⟩,trivial⟩⟩
     | cons a r =>
       rw [List.length_cons] at hol
       have ha64:=hout a (List.mem_cons_self ..)
       have hpos:decide (((seL (a :: r)).length:Int)>0)=true:=decide_eq_true (by rw [Zb0,List.length_cons];omega)
       have hsc:=Zb2 good a r s
       have l1:=Z4L s hs64
       have l2:=Z4L a ha64
       generalize popK 64 s=ps at hsc l1
       generalize popK 64 a=pa at hsc l2
       (repeat'(first|refine Z5 38 ?_|refine Z1 38 ?_|refine st ?_|(apply B<;>intro hb<;>try cases hb)))<;>try refine At.mk ?_
       refine Zu (ZG rfl hpos) rfl rfl ?_
       (refine go ?_;repeat' (apply B<;>intro hb<;>try cases hb))
       refine Zq l1 rfl rfl rfl ⟨Z0 _,trivial⟩ ?_
       (refine go ?_;repeat' (apply B<;>intro hb<;>try cases hb))
       refine Zu (ZR (b:=⟨1,seL (a :: r)⟩) rfl rfl rfl 0 rfl (Nat.zero_lt_succ _) rfl) rfl rfl ?_
       (refine go ?_;repeat' (apply B<;>intro hb<;>try cases hb))
       refine Zq l2 rfl rfl rfl ⟨Z0 _,trivial⟩ ?_
       by_cases h1:pa<ps
       · have hd : decide (((ps : Nat) : Int) > ((pa : Nat) : Int)) = true := decide_eq_true (by omega)
         have hstep:smStep good (a :: r) s=a :: r:=by rw [hsc,if_pos h1]
         refine Z71 rfl ?_
         refine Zu (ZG rfl hd) rfl rfl ?_
         (refine go ?_;repeat' (apply B<;>intro hb<;>try cases hb))
         exact⟨m+1,(fun i=>i),by omega,by omega,fun j hj=>absurd hj (Nat.not_lt_zero _),ZH rfl,⟨⟨_,rfl,.pure _ (Za _)⟩,⟨_,rfl,.pure _ hc⟩,⟨_,rfl,.own (ρ:=(fun i=>i)) 0 (by decide)⟩,⟨_,rfl,.pure _ trivial⟩,⟨_,by show some _=some _; rw [hinc],.pure _ trivial⟩,trivial⟩,⟨⟨by decide,_,rfl,by rw [hst,hstep]; exact .same _ (Z1h _)⟩,trivial⟩⟩
       · have hd : decide (((ps : Nat) : Int) > ((pa : Nat) : Int)) = false := decide_eq_false (by omega)
         refine Z71 rfl ?_
         refine Zu (ZG rfl hd) rfl rfl ?_
         (refine go ?_;repeat' (apply B<;>intro hb<;>try cases hb))
         refine Zq (hg s hs64) rfl rfl rfl ⟨Z0 _,hc⟩ ?_
         cases hgs:good s with
         | false =>
           have hstep:smStep good (a :: r) s=a :: r:=by rw [hsc,if_neg h1,hgs]; rfl
           (refine go ?_;repeat' (apply B<;>intro hb<;>try cases hb))
           exact⟨m+1,(fun i=>i),by omega,by omega,fun j hj=>absurd hj (Nat.not_lt_zero _),ZH rfl,⟨⟨_,rfl,.pure _ (Za _)⟩,⟨_,rfl,.pure _ hc⟩,⟨_,rfl,.own (ρ:=(fun i=>i)) 0 (by decide)⟩,⟨_,rfl,.pure _ trivial⟩,⟨_,by show some _=some _; rw [hinc],.pure _ trivial⟩,trivial⟩,⟨⟨by decide,_,rfl,by rw [hst,hstep]; exact .same _ (Z1h _)⟩,trivial⟩⟩
         | true =>
           (repeat'(first|refine Z5 56 ?_|refine Z1 56 ?_|refine st ?_|(apply B<;>intro hb<;>try cases hb)))<;>try refine At.mk ?_
           refine Zu (ZG rfl hpos) rfl rfl ?_
           (refine go ?_;repeat' (apply B<;>intro hb<;>try cases hb))
           refine Zq l1 rfl rfl rfl ⟨Z0 _,trivial⟩ ?_
           (refine go ?_;repeat' (apply B<;>intro hb<;>try cases hb))
           refine Zu (ZR (b:=⟨1,seL (a :: r)⟩) rfl rfl rfl 0 rfl (Nat.zero_lt_succ _) rfl) rfl rfl ?_
           (refine go ?_;repeat' (apply B<;>intro hb<;>try cases hb))
           refine Zq l2 rfl rfl rfl ⟨Z0 _,trivial⟩ ?_
           by_cases h2:ps<pa
           · have hd2 : decide (((ps : Nat) : Int) < ((pa : Nat) : Int)) = true := decide_eq_true (by omega)
             have hstep:smStep good (a :: r) s = [s]:=by rw [hsc,if_neg h1,hgs,if_pos rfl,if_pos h2]
             refine Z71 rfl ?_
             refine Zu (ZG rfl hd2) rfl rfl ?_
             (refine go ?_;repeat' (apply B<;>intro hb<;>try cases hb))
             exact⟨m+1,mv 0 33,by omega,by omega,fun j hj=>absurd hj (Nat.not_lt_zero _),ZH rfl,⟨⟨_,rfl,.pure _ (Za _)⟩,⟨_,rfl,.pure _ hc⟩,⟨_,rfl,.own (ρ:=mv 0 33) 0 (by decide)⟩,⟨_,rfl,.pure _ trivial⟩,⟨_,by show some _=some _; rw [hinc],.pure _ trivial⟩,trivial⟩,⟨⟨by decide,_,rfl,by rw [hst,hstep]; exact .same ⟨1,seL [s]⟩ (Z1h [s])⟩,trivial⟩⟩
           · have hd2 : decide (((ps : Nat) : Int) < ((pa : Nat) : Int)) = false := decide_eq_false (by omega)
             have hstep:smStep good (a :: r) s=a :: r ++ [s]:=by rw [hsc,if_neg h1,hgs,if_pos rfl,if_neg h2]
             refine Z71 rfl ?_
             refine Zu (ZG rfl hd2) rfl rfl ?_
             (repeat'(first|refine Z5 71 ?_|refine Z1 71 ?_|refine st ?_|(apply B<;>intro hb<;>try cases hb)))<;>try refine At.mk ?_
             refine ZM (ZE (k:=0) (m := [stC s]) (fl:=true) (b:=⟨1,seL (a :: r)⟩) rfl rfl rfl (fun c hc=>by rw [List.mem_singleton] at hc; subst hc; rfl) rfl (by
              show ((seL (a :: r)).length+1)*24≤_
              rw [Zb0,List.length_cons];omega)) rfl rfl ?_
             (refine go ?_;repeat' (apply B<;>intro hb<;>try cases hb))
             exact⟨m+1,mv 0 32,by omega,by omega,fun j hj=>absurd hj (Nat.not_lt_zero _),ZH rfl,⟨⟨_,rfl,.pure _ (Za _)⟩,⟨_,rfl,.pure _ hc⟩,⟨_,rfl,.own (ρ:=mv 0 32) 0 (by decide)⟩,⟨_,rfl,.pure _ trivial⟩,⟨_,by show some _=some _; rw [hinc],.pure _ trivial⟩,trivial⟩,⟨⟨by decide,_,rfl,by rw [hst,hstep,show seL (a :: r ++ [s])=seL (a :: r) ++ [stC s] by simp [seL]]; exact .same _ (by show pureLL (seL (a :: r) ++ [stC s]); rw [show seL (a :: r) ++ [stC s]=seL (a :: r ++ [s]) by simp [seL]]; exact Z1h _)⟩,trivial⟩⟩
 · have hml : m = 2 ^ (mem E).length := by have := of_decide_eq_false hb; omega
   subst hml
   clear hb
   have hM:=Zfq hE good
   have hout:=Z8D hE good (2 ^ (mem E).length)
   generalize smAll (mem E) good (2 ^ (mem E).length)=out at hM hout ⊢
   cases out with
   | nil =>
     (refine go ?_;repeat' (apply B<;>intro hb<;>try cases hb))
     exact Z2 rfl ⟨trivial,trivial,trivial⟩ (.found hle [] true hM List.Pairwise.nil)
   | cons a r =>
     (repeat'(first|refine Z5 75 ?_|refine Z1 75 ?_|refine st ?_|(apply B<;>intro hb<;>try cases hb)))<;>try refine At.mk ?_
     refine Z7 (ZG (v:=false) rfl (by show (((seL (a :: r)).length:Int) == 0)=false; rw [Zb0,beq_eq_false_iff_ne,List.length_cons];omega)) rfl rfl ?_
     (refine go ?_;repeat' (apply B<;>intro hb<;>try cases hb))
     refine ZT rfl rfl (Zb1 (ob:=0) (a :: r) hout rfl) ?_
     rintro n' x h' ⟨rfl,rfl,ys,hp,hs,rfl⟩
     (repeat'(first|refine Z5 78 ?_|refine Z1 78 ?_|refine st ?_|(apply B<;>intro hb<;>try cases hb)))<;>try refine At.mk ?_
     refine Zf (Zn (k:=6) (id:=0) (b:=⟨1,seL ys⟩) rfl rfl (Z1h ys)) ?_
     (refine go ?_;repeat' (apply B<;>intro hb<;>try cases hb))
     have hne:ys≠[]:=fun h=>by subst h; have:=hp.length_eq; simp at this
     have:=SmR.found hle ys false (hM.perm hp) hs
     rw [if_neg hne] at this
     exact Z2 rfl ⟨Z1h _,trivial,trivial⟩ this
inductive RepR (f:Fm) (E:Nat) (good:Nat→Bool):PV→Prop
 | bad (h:checkM f≠0):RepR f E good (.tup [.vec [] true,.val (.int .i64 (checkM f))])
 | sm (h:checkM f=0) {r:PV} (hr:SmR E good r):RepR f E good r
set_option maxHeartbeats 2000000 in
theorem Z32 {f:Fm} (hm:HoldsW f) (hd:f.depth≤1000) (hsz:f.size≤1099511627776) (l:List Pr) (S:List Nat) (E:Nat) (hE:E<18446744073709551616) (h0:E.testBit 0=false):Spec Tryz.prog 20 [.agg (fC .u8 f),setN E,hierP l S] (RepR f E (gdR f l E)):=by
 have hcp:pureL [PV.cp (fC .u8 f),.cp [hierP l S],.cp [.vec (words (digs E)) false]]:=⟨Zh _ _,⟨Zm l S,trivial⟩,⟨Zc _,trivial⟩,trivial⟩
 refine Z3 ok20 (Nat.le_of_ble_eq_true rfl) fun C hC=>?_
 refine Zj ?_
 refine Z9 ?_
 refine Z4 rfl rfl rfl ?_
 refine Z4 rfl rfl rfl ?_
 refine Z4 rfl rfl rfl ?_
 (refine go ?_;repeat' (apply B<;>intro hb<;>try cases hb))
 refine Z6 (Z7F f hd hsz l S E hE h0) rfl rfl rfl ⟨Zh _ _,Zm l S,Z0 E,trivial⟩ rfl ?_
 by_cases hk:checkM f=0
 · rw [hk]
   (refine go ?_;repeat' (apply B<;>intro hb<;>try cases hb))
   refine Z6 (Z6i E hE) rfl rfl rfl ⟨Z0 E,trivial⟩ rfl ?_
   (refine go ?_;repeat' (apply B<;>intro hb<;>try cases hb))
   refine Zv rfl rfl (Z3Y hE (caps := [PV.cp (fC .u8 f),.cp [hierP l S],.cp [.vec (words (digs E)) false]]) hcp fun s hs=>Z8E hm l S E s hE hs) ⟨Za _,hcp,trivial⟩ rfl ?_
   rintro r hr
   rcases hr with h|⟨h,out,fl,h1,h2⟩
   · (refine go ?_;repeat' (apply B<;>intro hb<;>try cases hb))
     exact Z2 rfl ⟨trivial,trivial,trivial⟩ (.sm hk (.many h))
   · (refine go ?_;repeat' (apply B<;>intro hb<;>try cases hb))
     exact Z2 rfl ⟨Z1h _,trivial,trivial⟩ (.sm hk (.found h out fl h1 h2))
 · (repeat'(first|refine Z5 14 ?_|refine Z1 14 ?_|refine st ?_|(apply B<;>intro hb<;>try cases hb)))<;>try refine At.mk ?_
   refine Z7 (ZG (v:=true) rfl (bne_iff_ne.2 hk)) rfl rfl ?_
   (refine go ?_;repeat' (apply B<;>intro hb<;>try cases hb))
   exact Z2 rfl ⟨trivial,trivial,trivial⟩ (.bad hk)
set_option maxHeartbeats 2000000 in
theorem Z6O {f:Fm} (hm:HoldsW f) (hd:f.depth≤1000) (hsz:f.size≤1099511627776) (l:List Pr) (S:List Nat) (E Y:Nat) (hE:E<18446744073709551616) (hY:Y<18446744073709551616) (h0:(E ||| Y).testBit 0=false):Spec Tryz.prog 21 [.agg (fC .u8 f),setN E,setN Y,hierP l S] (RepR f (minusN Y E) (gdA f l E)):=by
 have hcp:pureL [PV.cp (fC .u8 f),.cp [hierP l S],.cp [.vec (words (digs E)) false]]:=⟨Zh _ _,⟨Zm l S,trivial⟩,⟨Zc _,trivial⟩,trivial⟩
 have hM:=Z2e E hY
 refine Z3 ok21 (Nat.le_of_ble_eq_true rfl) fun C hC=>?_
 refine Zj ?_
 refine Z9 ?_
 refine Z4 rfl rfl rfl ?_
 refine Z4 rfl rfl rfl ?_
 refine Z4 rfl rfl rfl ?_
 refine Z4 rfl rfl rfl ?_
 (refine go ?_;repeat' (apply B<;>intro hb<;>try cases hb))
 refine Zq (Z3H E Y hE hY) rfl rfl rfl ⟨Z0 E,Z0 Y,trivial⟩ ?_
 refine Zq (Z7F f hd hsz l S (E ||| Y) (Z3i hE hY) h0) rfl rfl rfl ⟨Zh _ _,Zm l S,Z0 _,trivial⟩ ?_
 by_cases hk:checkM f=0
 · rw [hk]
   (refine go ?_;repeat' (apply B<;>intro hb<;>try cases hb))
   refine Z6 (Z30 Y E hY hE) rfl rfl rfl ⟨Z0 Y,Z0 E,trivial⟩ rfl ?_
   refine Z6 (Z6i _ hM) rfl rfl rfl ⟨Z0 _,trivial⟩ rfl ?_
   (refine go ?_;repeat' (apply B<;>intro hb<;>try cases hb))
   refine Zv rfl rfl (Z3Y hM (caps := [PV.cp (fC .u8 f),.cp [hierP l S],.cp [.vec (words (digs E)) false]]) hcp fun s hs=>Z6M hm l S E s hE hs) ⟨Za _,hcp,trivial⟩ rfl ?_
   rintro r hr
   rcases hr with h|⟨h,out,fl,h1,h2⟩
   · (refine go ?_;repeat' (apply B<;>intro hb<;>try cases hb))
     exact Z2 rfl ⟨trivial,trivial,trivial⟩ (.sm hk (.many h))
   · (refine go ?_;repeat' (apply B<;>intro hb<;>try cases hb))
     exact Z2 rfl ⟨Z1h _,trivial,trivial⟩ (.sm hk (.found h out fl h1 h2))
 · (repeat'(first|refine Z5 18 ?_|refine Z1 18 ?_|refine st ?_|(apply B<;>intro hb<;>try cases hb)))<;>try refine At.mk ?_
   refine Z7 (ZG (v:=true) rfl (bne_iff_ne.2 hk)) rfl rfl ?_
   (refine go ?_;repeat' (apply B<;>intro hb<;>try cases hb))
   exact Z2 rfl ⟨trivial,trivial,trivial⟩ (.bad hk)
theorem Zfu {l:List Cu} {S i:Nat} (hi:i<l.length) (hno:(l.take i).any (fun c=>hoC c S)=false) (h:hoC l[i] S=true):firstC l S=some l[i]:=by
 have e:l=l.take i++l[i] :: l.drop (i+1):=by rw [← List.drop_eq_getElem_cons hi,List.take_append_drop]
 have h1:(l.take i).find? (fun c=>hoC c S)=none:=by rw [List.find?_eq_none]; rw [List.any_eq_false] at hno; exact hno
 unfold firstC
 generalize l[i]=c at e h
 rw [e,List.find?_append,h1,List.find?_cons,h]
 rfl
theorem Zc4 {f:Fm} (h:checkM f≠0):vioL f = []:=by unfold vioL; rw [if_neg h]
def ofWP (o:Option Cu):PV:=.tup [cuP (o.getD (0,0)),.val (.bool o.isSome)]
theorem Z6P (o:Option Cu):(ofWP o).pure:=⟨Zt _,trivial,trivial⟩
theorem Z51:ofWP none=.tup [.agg [.vec [] false,.vec [] false],.val (.bool false)]:=by
 show PV.tup [.agg [.vec (words (digs 0)) false,.vec (words (digs 0)) false],_]=_
 rw [Zw]; rfl
set_option maxHeartbeats 4000000 in
theorem Z8F (f:Fm) (hd:f.depth≤1000) (hsz:f.size≤1099511627776) (S:Nat) (hS:S<18446744073709551616):Spec Tryz.prog 30 [.agg (fC .u8 f),setN S] (· = ofWP (firstC (vioL f) S)):=by
 have hok:=Z5j f
 have hvp:∀ D,innLL D ((vioL f).map cuC):=fun D=>Ze (fun _ h=>h.elim) _ (ZC _)
 have hnl:((vioL f).map cuC).length=(vioL f).length:=by simp
 have hfp:=fun D=>Z3T .u8 f D
 refine Z3 ok30 (Nat.le_of_ble_eq_true rfl) fun C hC=>?_
 refine Zj ?_
 refine Z9 ?_
 refine Z4 rfl rfl rfl ?_
 refine Z4 rfl rfl rfl ?_
 (refine go ?_;repeat' (apply B<;>intro hb<;>try cases hb))
 refine Z6 (Z3N f hd hsz) rfl rfl rfl ⟨Zh _ _,trivial,trivial⟩ rfl ?_
 by_cases hk:checkM f=0
 · rw [hk]
   (refine go ?_;repeat' (apply B<;>intro hb<;>try cases hb))
   refine Z6 (Z2m f hd hsz) rfl rfl rfl ⟨Zh _ _,trivial⟩ rfl ?_
   rw [hk]
   (refine go ?_;repeat' (apply B<;>intro hb<;>try cases hb))
   refine Z3a (k:=19) rfl fun hmax=>?_
   have hlm:(vioL f).length≤maxVec:=by rw [← hnl]; exact hmax
   refine Zo hC (fun i=>i≤(vioL f).length∧((vioL f).take i).any (fun c=>hoC c S)=false) (fun i=>(vioL f).length-i) 1 (fun i => [(3,.cp [.vec (words (digs S)) false]),(4,.ptr 0 0 0),(19,.vec ((vioL f).map cuC) false),(20,.val (.int .i64 ((vioL f).length:Int))),(21,.val (.int .i64 (i:Int)))])
    (fun i => [(0,⟨2,[[.vec [] true,.vec [] true]]⟩)]) (Nat.zero_le _) 0 ⟨Nat.zero_le _,rfl⟩
    ⟨⟨rfl,ZI _ _,trivial⟩,⟨rfl,show (0:Nat)<1 by decide⟩,⟨rfl,hvp _⟩,⟨by rw [← hnl]; rfl,trivial⟩,⟨rfl,trivial⟩,trivial⟩ ⟨⟨by decide,rfl,⟨⟨trivial,trivial,trivial⟩,trivial⟩⟩,trivial⟩ ?_
   rintro i ⟨hi,hno⟩
   have hinc:IntKind.i64.wrap ((i:Int)+1)=((i+1:Nat):Int):=IntWalk.i64_in _ ⟨by omega,by simp only [maxVec] at hlm; omega⟩
   (repeat'(first|refine Z5 22 ?_|refine Z1 22 ?_|refine st ?_|(apply B<;>intro hb<;>try cases hb)))<;>try refine At.mk ?_
   refine Zg rfl rfl rfl (fun hb=>?_) (fun hb=>?_)
   · have hil : i < (vioL f).length := by have := of_decide_eq_true hb; omega
     clear hb
     have hci:=hok _ (List.getElem_mem hil)
     (refine go ?_;repeat' (apply B<;>intro hb<;>try cases hb))
     refine Z7 (Zl (xs:=vioL f) (g:=cuC) rfl rfl i rfl hil rfl) rfl rfl ?_
     (refine go ?_;repeat' (apply B<;>intro hb<;>try cases hb))
     refine Z6 (Z48 (vioL f)[i] S hci hS) rfl rfl rfl ⟨Zt _,Z0 _,trivial⟩ rfl ?_
     cases hh:hoC (vioL f)[i] S with
     | false =>
       (refine go ?_;repeat' (apply B<;>intro hb<;>try cases hb))
       exact⟨i+1,⟨by omega,Z5O hil hno hh⟩,by omega,⟨⟨rfl,ZI _ _,trivial⟩,⟨rfl,show (0:Nat)<1 by decide⟩,⟨rfl,hvp _⟩,⟨rfl,trivial⟩,⟨by show some _=some _; rw [hinc],trivial⟩,trivial⟩,⟨⟨by decide,rfl,⟨⟨trivial,trivial,trivial⟩,trivial⟩⟩,trivial⟩⟩
     | true =>
       (refine go ?_;repeat' (apply B<;>intro hb<;>try cases hb))
       exact Z2 rfl (Z6P (some (vioL f)[i])) (by rw [Zfu hil hno hh]; rfl)
   · have hil : i = (vioL f).length := by have := of_decide_eq_false hb; omega
     subst hil
     rw [List.take_length] at hno
     clear hb
     (refine go ?_;repeat' (apply B<;>intro hb<;>try cases hb))
     refine Z40 rfl (Z6P none |> fun h=>by rw [Z51] at h; exact h) ?_
     rw [show firstC (vioL f) S=none from ZaW.2 hno,Z51]; rfl
 · (repeat'(first|refine Z5 12 ?_|refine Z1 12 ?_|refine st ?_|(apply B<;>intro hb<;>try cases hb)))<;>try refine At.mk ?_
   refine Z7 (ZG (v:=true) rfl (bne_iff_ne.2 hk)) rfl rfl ?_
   (refine go ?_;repeat' (apply B<;>intro hb<;>try cases hb))
   refine Z40 rfl (Z6P none |> fun h=>by rw [Z51] at h; exact h) ?_
   rw [Zc4 hk,show firstC [] S=none from rfl,Z51]; rfl
theorem Zb3 (c d:Cu) (hc:Ok64 c) (hd:Ok64 d):Spec Tryz.prog 90 [.agg (cuC d),.cp (cuC c)] (· = .val (.bool (eqC c d))):=by
 refine Z3 ok90 (Nat.le_of_ble_eq_true rfl) fun C hC=>?_
 refine Zj ?_
 refine Z9 ?_
 refine Z4 rfl rfl rfl ?_
 (refine go ?_;repeat' (apply B<;>intro hb<;>try cases hb))
 refine Z6 (Z49 c d hc hd) rfl rfl rfl ⟨Zt _,Zt _,trivial⟩ rfl ?_
 cases eqC c d
 all_goals
  (refine go ?_;repeat' (apply B<;>intro hb<;>try cases hb))
  exact Z2 rfl trivial rfl
set_option maxHeartbeats 4000000 in
theorem Z6Q (f:Fm) (hd:f.depth≤1000) (hsz:f.size≤1099511627776) (S:Nat) (hS:S<18446744073709551616) (c:Cu) (hc:Ok64 c):Spec Tryz.prog 41 [.agg (fC .u8 f),setN S,cuP c] (· = .val (.bool (hoC c S&&(vioL f).any fun d=>eqC c d))):=by
 have hok:=Z5j f
 refine Z3 ok41 (Nat.le_of_ble_eq_true rfl) fun C hC=>?_
 refine Zj ?_
 refine Z9 ?_
 refine Z4 rfl rfl rfl ?_
 refine Z4 rfl rfl rfl ?_
 refine Z4 rfl rfl rfl ?_
 (refine go ?_;repeat' (apply B<;>intro hb<;>try cases hb))
 refine Z6 (Z3N f hd hsz) rfl rfl rfl ⟨Zh _ _,trivial,trivial⟩ rfl ?_
 by_cases hk:checkM f=0
 · rw [hk]
   (refine go ?_;repeat' (apply B<;>intro hb<;>try cases hb))
   refine Z6 (Z48 c S hc hS) rfl rfl rfl ⟨Zt _,Z0 _,trivial⟩ rfl ?_
   cases hoC c S with
   | false =>
     (refine go ?_;repeat' (apply B<;>intro hb<;>try cases hb))
     exact Z2 rfl trivial rfl
   | true =>
     (refine go ?_;repeat' (apply B<;>intro hb<;>try cases hb))
     refine Z6 (Z2m f hd hsz) rfl rfl rfl ⟨Zh _ _,trivial⟩ rfl ?_
     rw [hk]
     (refine go ?_;repeat' (apply B<;>intro hb<;>try cases hb))
     refine Z6 (Z2u (vioL f) cuC false 90 [.cp (cuC c)] (fun d=>eqC c d) ZeB Z1k ⟨Z1k c,trivial⟩ fun d hd=>Zb3 c d hc (hok d hd)) rfl rfl rfl ⟨ZC _,⟨Z1k c,trivial⟩,trivial⟩ rfl ?_
     cases (vioL f).any fun d=>eqC c d
     all_goals
      (refine go ?_;repeat' (apply B<;>intro hb<;>try cases hb))
      exact Z2 rfl trivial rfl
 · (repeat'(first|refine Z5 11 ?_|refine Z1 11 ?_|refine st ?_|(apply B<;>intro hb<;>try cases hb)))<;>try refine At.mk ?_
   refine Z7 (ZG (v:=true) rfl (bne_iff_ne.2 hk)) rfl rfl ?_
   (refine go ?_;repeat' (apply B<;>intro hb<;>try cases hb))
   exact Z2 rfl trivial (by rw [Zc4 hk]; simp)
end Go.Proofs.YtjpkfigmmmngnaaGreatDoor
namespace Go.Proofs.YtjpkfigmmmngnaaGreatDoor
open Go.Shelf
def Zb4:Go.Shelf.Ren:=⟨fun|171=>104|243=>145|246=>169|283=>207|284=>208|285=>209|286=>210|129=>182|317=>223|318=>224|319=>225|320=>226|337=>230|338=>71|n=>n,fun|3=>3|9=>9|2=>2|4=>4|171=>258|0=>0|53=>23|37=>22|5=>5|173=>260|212=>273|51=>238|20=>20|213=>274|46=>168|232=>279|233=>176|n=>n,fun|17=>2|18=>3|19=>0|n=>n⟩
theorem lays171:Go.Proofs.Lays.n171 Tryz.prog Zb4:={
 mixed:=by kernel_rfl
 f129:=Tryz.func182.trans (congrArg some (by kernel_rfl))
 f171:=Tryz.func104.trans (congrArg some (by kernel_rfl))
 f243:=Tryz.func145.trans (congrArg some (by kernel_rfl))
 f246:=Tryz.func169.trans (congrArg some (by kernel_rfl))
 f283:=Tryz.func207.trans (congrArg some (by kernel_rfl))
 f284:=Tryz.func208.trans (congrArg some (by kernel_rfl))
 f285:=Tryz.func209.trans (congrArg some (by kernel_rfl))
 f286:=Tryz.func210.trans (congrArg some (by kernel_rfl))
 f317:=Tryz.func223.trans (congrArg some (by kernel_rfl))
 f318:=Tryz.func224.trans (congrArg some (by kernel_rfl))
 f319:=Tryz.func225.trans (congrArg some (by kernel_rfl))
 f320:=Tryz.func226.trans (congrArg some (by kernel_rfl))
 f337:=Tryz.func230.trans (congrArg some (by kernel_rfl))
 f338:=Tryz.func71.trans (congrArg some (by kernel_rfl))
 t0:=Tryz.underlying0
 a0:=Tryz.isAgg0
 z0:=Tryz.sizeOf0
 v0:=Tryz.zeroValue0
 t2:=Tryz.underlying2
 a2:=Tryz.isAgg2
 z2:=Tryz.sizeOf2
 v2:=Tryz.zeroValue2
 t3:=Tryz.underlying3
 a3:=Tryz.isAgg3
 z3:=Tryz.sizeOf3
 v3:=Tryz.zeroValue3
 t4:=Tryz.underlying4
 a4:=Tryz.isAgg4
 z4:=Tryz.sizeOf4
 v4:=Tryz.zeroValue4
 t5:=Tryz.underlying5
 a5:=Tryz.isAgg5
 z5:=Tryz.sizeOf5
 v5:=Tryz.zeroValue5
 t9:=Tryz.underlying9
 a9:=Tryz.isAgg9
 z9:=Tryz.sizeOf9
 v9:=Tryz.zeroValue9
 t20:=Tryz.underlying20
 a20:=Tryz.isAgg20
 z20:=Tryz.sizeOf20
 v20:=Tryz.zeroValue20
 t37:=Tryz.underlying22
 a37:=Tryz.isAgg22
 z37:=Tryz.sizeOf22
 v37:=Tryz.zeroValue22
 t46:=Tryz.underlying168
 a46:=Tryz.isAgg168
 z46:=Tryz.sizeOf168
 v46:=Tryz.zeroValue168
 t51:=Tryz.underlying238
 a51:=Tryz.isAgg238
 z51:=Tryz.sizeOf238
 v51:=Tryz.zeroValue238
 t53:=Tryz.underlying23
 a53:=Tryz.isAgg23
 z53:=Tryz.sizeOf23
 v53:=Tryz.zeroValue23
 t171:=Tryz.underlying258
 a171:=Tryz.isAgg258
 z171:=Tryz.sizeOf258
 v171:=Tryz.zeroValue258
 t173:=Tryz.underlying260
 a173:=Tryz.isAgg260
 z173:=Tryz.sizeOf260
 v173:=Tryz.zeroValue260
 t212:=Tryz.underlying273
 a212:=Tryz.isAgg273
 z212:=Tryz.sizeOf273
 v212:=Tryz.zeroValue273
 t213:=Tryz.underlying274
 a213:=Tryz.isAgg274
 z213:=Tryz.sizeOf274
 t232:=Tryz.underlying279
 a232:=Tryz.isAgg279
 z232:=Tryz.sizeOf279
 v232:=Tryz.zeroValue279
 t233:=Tryz.underlying176
 a233:=Tryz.isAgg176
 z233:=Tryz.sizeOf176
 v233:=Tryz.zeroValue176
 g17:=by kernel_rfl
 g18:=by kernel_rfl
 g19:=by kernel_rfl }
def Z6R:Go.Shelf.Ren:=⟨fun|156=>100|165=>140|166=>107|169=>108|240=>146|241=>166|276=>170|277=>206|n=>n,fun|31=>95|9=>9|3=>3|4=>4|0=>0|20=>20|72=>158|76=>162|70=>156|37=>22|75=>160|127=>207|164=>226|5=>5|80=>104|n=>n,fun|n=>n⟩
theorem lays156:Go.Proofs.Lays.n156 Tryz.prog Z6R:={
 mixed:=by kernel_rfl
 f156:=Tryz.func100.trans (congrArg some (by kernel_rfl))
 f165:=Tryz.func140.trans (congrArg some (by kernel_rfl))
 f166:=Tryz.func107.trans (congrArg some (by kernel_rfl))
 f169:=Tryz.func108.trans (congrArg some (by kernel_rfl))
 f240:=Tryz.func146.trans (congrArg some (by kernel_rfl))
 f241:=Tryz.func166.trans (congrArg some (by kernel_rfl))
 f276:=Tryz.func170.trans (congrArg some (by kernel_rfl))
 f277:=Tryz.func206.trans (congrArg some (by kernel_rfl))
 t0:=Tryz.underlying0
 a0:=Tryz.isAgg0
 z0:=Tryz.sizeOf0
 v0:=Tryz.zeroValue0
 t3:=Tryz.underlying3
 a3:=Tryz.isAgg3
 z3:=Tryz.sizeOf3
 v3:=Tryz.zeroValue3
 t4:=Tryz.underlying4
 a4:=Tryz.isAgg4
 z4:=Tryz.sizeOf4
 v4:=Tryz.zeroValue4
 t9:=Tryz.underlying9
 a9:=Tryz.isAgg9
 z9:=Tryz.sizeOf9
 v9:=Tryz.zeroValue9
 t20:=Tryz.underlying20
 a20:=Tryz.isAgg20
 z20:=Tryz.sizeOf20
 v20:=Tryz.zeroValue20
 t31:=Tryz.underlying95
 a31:=Tryz.isAgg95
 z31:=Tryz.sizeOf95
 v31:=Tryz.zeroValue95
 t37:=Tryz.underlying22
 a37:=Tryz.isAgg22
 z37:=Tryz.sizeOf22
 v37:=Tryz.zeroValue22
 t70:=Tryz.underlying156
 a70:=Tryz.isAgg156
 z70:=Tryz.sizeOf156
 v70:=Tryz.zeroValue156
 t72:=Tryz.underlying158
 a72:=Tryz.isAgg158
 z72:=Tryz.sizeOf158
 v72:=Tryz.zeroValue158
 t75:=Tryz.underlying160
 a75:=Tryz.isAgg160
 z75:=Tryz.sizeOf160
 v75:=Tryz.zeroValue160
 t76:=Tryz.underlying162
 a76:=Tryz.isAgg162
 z76:=Tryz.sizeOf162
 v76:=Tryz.zeroValue162
 t127:=Tryz.underlying207
 a127:=Tryz.isAgg207
 z127:=Tryz.sizeOf207
 v127:=Tryz.zeroValue207
 t164:=Tryz.underlying226
 a164:=Tryz.isAgg226
 z164:=Tryz.sizeOf226
 v164:=Tryz.zeroValue226 }
theorem builderExtra156:Builder.Extra Tryz.prog Z6R:={
 sizeBuilder:=by kernel_rfl
 liesBuilder:=by kernel_rfl
 t5:=Tryz.underlying5
 a5:=Tryz.isAgg5
 z5:=Tryz.sizeOf5
 v5:=Tryz.zeroValue5
 infoByte:=by kernel_rfl
 cellsByte:=by kernel_rfl
 sizeByte:=by kernel_rfl
 neB5:=by decide }
def Z2o:Go.Shelf.Ren:=⟨fun|167=>105|170=>106|156=>100|165=>140|166=>107|169=>108|240=>146|241=>166|276=>170|277=>206|n=>n,fun|31=>95|9=>9|3=>3|4=>4|0=>0|20=>20|72=>158|76=>162|70=>156|37=>22|75=>160|127=>207|164=>226|5=>5|80=>104|n=>n,fun|n=>n⟩
theorem lays166:Go.Proofs.Lays.n166 Tryz.prog Z2o:={
 mixed:=by kernel_rfl
 f166:=Tryz.func107.trans (congrArg some (by kernel_rfl))
 f240:=Tryz.func146.trans (congrArg some (by kernel_rfl))
 f276:=Tryz.func170.trans (congrArg some (by kernel_rfl))
 t0:=Tryz.underlying0
 a0:=Tryz.isAgg0
 z0:=Tryz.sizeOf0
 v0:=Tryz.zeroValue0
 t3:=Tryz.underlying3
 a3:=Tryz.isAgg3
 z3:=Tryz.sizeOf3
 v3:=Tryz.zeroValue3
 t4:=Tryz.underlying4
 a4:=Tryz.isAgg4
 z4:=Tryz.sizeOf4
 v4:=Tryz.zeroValue4
 t9:=Tryz.underlying9
 a9:=Tryz.isAgg9
 z9:=Tryz.sizeOf9
 v9:=Tryz.zeroValue9
 t20:=Tryz.underlying20
 a20:=Tryz.isAgg20
 z20:=Tryz.sizeOf20
 v20:=Tryz.zeroValue20
 t37:=Tryz.underlying22
 a37:=Tryz.isAgg22
 z37:=Tryz.sizeOf22
 v37:=Tryz.zeroValue22
 t70:=Tryz.underlying156
 a70:=Tryz.isAgg156
 z70:=Tryz.sizeOf156
 v70:=Tryz.zeroValue156
 t72:=Tryz.underlying158
 a72:=Tryz.isAgg158
 z72:=Tryz.sizeOf158
 v72:=Tryz.zeroValue158
 t75:=Tryz.underlying160
 a75:=Tryz.isAgg160
 z75:=Tryz.sizeOf160
 v75:=Tryz.zeroValue160
 t164:=Tryz.underlying226
 a164:=Tryz.isAgg226
 z164:=Tryz.sizeOf226
 v164:=Tryz.zeroValue226 }
theorem lays167:Go.Proofs.Lays.n167 Tryz.prog Z2o:={
 mixed:=by kernel_rfl
 f167:=Tryz.func105.trans (congrArg some (by kernel_rfl))
 f240:=Tryz.func146.trans (congrArg some (by kernel_rfl))
 f276:=Tryz.func170.trans (congrArg some (by kernel_rfl))
 t0:=Tryz.underlying0
 a0:=Tryz.isAgg0
 z0:=Tryz.sizeOf0
 v0:=Tryz.zeroValue0
 t4:=Tryz.underlying4
 a4:=Tryz.isAgg4
 z4:=Tryz.sizeOf4
 v4:=Tryz.zeroValue4
 t5:=Tryz.underlying5
 a5:=Tryz.isAgg5
 z5:=Tryz.sizeOf5
 v5:=Tryz.zeroValue5
 t9:=Tryz.underlying9
 a9:=Tryz.isAgg9
 z9:=Tryz.sizeOf9
 v9:=Tryz.zeroValue9
 t20:=Tryz.underlying20
 a20:=Tryz.isAgg20
 z20:=Tryz.sizeOf20
 v20:=Tryz.zeroValue20
 t37:=Tryz.underlying22
 a37:=Tryz.isAgg22
 z37:=Tryz.sizeOf22
 v37:=Tryz.zeroValue22
 t70:=Tryz.underlying156
 a70:=Tryz.isAgg156
 z70:=Tryz.sizeOf156
 v70:=Tryz.zeroValue156
 t72:=Tryz.underlying158
 a72:=Tryz.isAgg158
 z72:=Tryz.sizeOf158
 v72:=Tryz.zeroValue158
 t75:=Tryz.underlying160
 a75:=Tryz.isAgg160
 z75:=Tryz.sizeOf160
 v75:=Tryz.zeroValue160
 t164:=Tryz.underlying226
 a164:=Tryz.isAgg226
 z164:=Tryz.sizeOf226
 v164:=Tryz.zeroValue226 }
theorem lays169:Go.Proofs.Lays.n169 Tryz.prog Z2o:={
 mixed:=by kernel_rfl
 f169:=Tryz.func108.trans (congrArg some (by kernel_rfl))
 t0:=Tryz.underlying0
 a0:=Tryz.isAgg0
 z0:=Tryz.sizeOf0
 v0:=Tryz.zeroValue0
 t3:=Tryz.underlying3
 a3:=Tryz.isAgg3
 z3:=Tryz.sizeOf3
 v3:=Tryz.zeroValue3
 t9:=Tryz.underlying9
 a9:=Tryz.isAgg9
 z9:=Tryz.sizeOf9
 v9:=Tryz.zeroValue9
 t37:=Tryz.underlying22
 a37:=Tryz.isAgg22
 z37:=Tryz.sizeOf22
 v37:=Tryz.zeroValue22
 t70:=Tryz.underlying156
 a70:=Tryz.isAgg156
 z70:=Tryz.sizeOf156
 v70:=Tryz.zeroValue156
 t72:=Tryz.underlying158
 a72:=Tryz.isAgg158
 z72:=Tryz.sizeOf158
 v72:=Tryz.zeroValue158
 t127:=Tryz.underlying207
 a127:=Tryz.isAgg207
 z127:=Tryz.sizeOf207
 v127:=Tryz.zeroValue207 }
theorem lays170:Go.Proofs.Lays.n170 Tryz.prog Z2o:={
 mixed:=by kernel_rfl
 f170:=Tryz.func106.trans (congrArg some (by kernel_rfl))
 t0:=Tryz.underlying0
 a0:=Tryz.isAgg0
 z0:=Tryz.sizeOf0
 v0:=Tryz.zeroValue0
 t3:=Tryz.underlying3
 a3:=Tryz.isAgg3
 z3:=Tryz.sizeOf3
 v3:=Tryz.zeroValue3
 t37:=Tryz.underlying22
 a37:=Tryz.isAgg22
 z37:=Tryz.sizeOf22
 v37:=Tryz.zeroValue22
 t70:=Tryz.underlying156
 a70:=Tryz.isAgg156
 z70:=Tryz.sizeOf156
 v70:=Tryz.zeroValue156
 t72:=Tryz.underlying158
 a72:=Tryz.isAgg158
 z72:=Tryz.sizeOf158
 v72:=Tryz.zeroValue158 }
theorem bxB:Builder.Extra Tryz.prog Z2o:={
 sizeBuilder:=by kernel_rfl
 liesBuilder:=by kernel_rfl
 t5:=Tryz.underlying5
 a5:=Tryz.isAgg5
 z5:=Tryz.sizeOf5
 v5:=Tryz.zeroValue5
 infoByte:=by kernel_rfl
 cellsByte:=by kernel_rfl
 sizeByte:=by kernel_rfl
 neB5:=by decide }
end Go.Proofs.YtjpkfigmmmngnaaGreatDoor
namespace Go.Proofs.YtjpkfigmmmngnaaGreatDoor
open Go.RowKit Go.Shelf
attribute [local go_sem] Oper.semAt_some
def txtS (xs:List Nat):List UInt8:=xs.foldl (fun acc x=>acc++((if 1<acc.length then [32] else [])++Go.Lib.decDigits x)) [123]
theorem Zfv (xs:List Nat) (x:Nat):txtS (xs ++ [x])=txtS xs++((if 1<(txtS xs).length then [32] else [])++Go.Lib.decDigits x):=by rw [txtS,List.foldl_append]; rfl
def textB (N:Nat):ByteArray:=⟨(txtS (mem N) ++ [125]).toArray⟩
theorem Z7G {k:Nat} (hk:k<100):(Go.Lib.decDigits k).length≤2:=by
 by_cases h:k<10
 · rw [Go.Lib.decDigits_one h]; simp
 · rw [Go.Lib.decDigits_two h hk]; simp
theorem Zc5:∀ (xs:List Nat),(∀ x∈xs,x<100)→(txtS xs).length≤1+3*xs.length:=by
 have key:∀ (xs:List Nat) (acc:List UInt8),(∀ x∈xs,x<100)→(xs.foldl (fun acc x=>acc++((if 1<acc.length then [32] else [])++Go.Lib.decDigits x)) acc).length≤acc.length+3*xs.length:=by
  intro xs
  induction xs with
  | nil=>intro acc _; simp
  | cons x xs ih =>
    intro acc h
    rw [List.foldl_cons]
    have h1:=ih (acc++((if 1<acc.length then [32] else [])++Go.Lib.decDigits x)) fun y hy=>h y (List.mem_cons_of_mem _ hy)
    have h2:=Z7G (h x (List.mem_cons_self ..))
    rw [List.length_append,List.length_append] at h1
    have h3:(if 1<acc.length then [(32:UInt8)] else []).length≤1:=by split<;>simp
    rw [List.length_cons]
    omega
 intro xs h
 exact key xs [123] h
abbrev TB:TypeId:=Z2o.t 72
abbrev TU:TypeId:=Z2o.t 5
theorem Z8G (B b:Nat) (l:List UInt8) (c:UInt8) (ci:Int) (hc:ci=c.toNat) (w:World) (h:Lib.IsBuilderF TB TU B b (Lib.byteCells l) w) (hlen:l.length≤100000) (hBw:B≤w.heap.size) :
 Calls Tryz.prog 105 #[.pointer (some ⟨b,0,none⟩),.int .u8 ci] w fun e w'=>e=.returned .nilIface∧Lib.IsBuilderF TB TU B b (Lib.byteCells (l ++ [c])) w'∧Below B w w'∧Lib.OthersKept TU (some b) w w':=by
 subst hc
 refine (Any.Builder_WriteByte_k lays167 bxB B b (Lib.byteCells l) c.toNat w h (by rw [Lib.byteCells_length];omega) hBw).mono ?_
 rintro e w' ⟨h1,h2,h3,h4⟩
 refine⟨h1,.inr ?_,h3,h4⟩
 rw [Lib.byteCells_append]
 exact h2
theorem Zc6 (B b:Nat) (l:List UInt8) (s:ByteArray) (w:World) (h:Lib.IsBuilderF TB TU B b (Lib.byteCells l) w) (hlen:l.length+s.size≤100000) (hBw:B≤w.heap.size) :
 Calls Tryz.prog 107 #[.pointer (some ⟨b,0,none⟩),.string s] w fun e w'=>e=.returned (.tuple #[.int .i64 s.size,.nilIface])∧Lib.IsBuilderF TB TU B b (Lib.byteCells (l++s.data.toList)) w'∧Below B w w'∧Lib.OthersKept TU (some b) w w':=by
 refine (Any.Builder_WriteString_k lays166 bxB B b (Lib.byteCells l) s w h (by rw [Lib.byteCells_length];omega) hBw).mono ?_
 rintro e w' ⟨h1,h2,h3,h4⟩
 refine⟨h1,.inr ?_,h3,h4⟩
 rw [Lib.byteCells_append,← Lib.strCells_eq]
 exact h2
theorem ZgW (B b:Nat) (l:List UInt8) (w:World) (h:Lib.IsBuilderF TB TU B b (Lib.byteCells l) w) :
 Calls Tryz.prog 106 #[.pointer (some ⟨b,0,none⟩)] w fun e w'=>e=.returned (.int .i64 l.length)∧w'=w:=by
 have:=Any.Builder_Len_f lays170 B b (Lib.byteCells l) w h
 rwa [Lib.byteCells_length] at this
theorem ZgX (B b:Nat) (l:List UInt8) (w:World) (h:Lib.IsBuilderF TB TU B b (Lib.byteCells l) w) (hBw:B≤w.heap.size) :
 Calls Tryz.prog 108 #[.pointer (some ⟨b,0,none⟩)] w fun e w'=>e=.returned (.string ⟨l.toArray⟩)∧Below B w w'∧Lib.OthersKept TU (some b) w w' :=
 (Any.Builder_String_any_k lays169 bxB B b l w h hBw).mono fun _ _ h=>⟨h.1,h.2.2⟩
theorem Zfw (s0:Value) (h1:s0.oneCell'=true) (w:World):Calls Tryz.prog 26 #[.agg #[s0]] w fun e w'=>e=.returned (.func (.func 70) #[] #[.pointer (some ⟨w.heap.size,0,none⟩)])∧∃ tS:TypeId,tS≠TU∧w'=w.alloc (.cells #[s0] tS):=by
 go_enter Tryz.func26,Tryz.ntmps26
 go_wp2
 go_ret
 exact⟨rfl,_,by decide,rfl⟩
theorem Zfx {T e:TypeId} {B b:Nat} {bs:List Value} {W W':World} {row:Option Nat} (h:Lib.IsBuilderF T e B b bs W) (hg:W.grownBy W' row) (hr:∀ r,row=some r→∃ o:Obj,W.heap[r]?=some o∧o.isCells=false):Lib.IsBuilderF T e B b bs W':=by
 have ncells:∀ {k:Nat} {cs:Array Value} {t:TypeId} {fz:Nat×Nat},W.heap[k]?=some (.cells cs t fz)→some k≠row:=by
  intro k cs t fz hk he
  obtain⟨o,ho,hc⟩:=hr k he.symm
  rw [hk] at ho; cases ho; cases hc
 have key:∀ p,Lib.BuilderAtF T e B b p bs W→Lib.BuilderAtF T e B b p bs W':=by
  rintro p ⟨hB,v,hb,hown,hne⟩
  refine⟨hB,v,(hg.block b (Array.getElem?_eq_some_iff.1 hb).1 (ncells hb)).trans hb,hown.kept hg ?_,hne⟩
  rcases hown.2 with⟨rfl,_⟩|⟨g',cap,cur,fz,rfl,_,hgg,_⟩
  · exact .inl rfl
  · exact .inr (ncells hgg)
 exact h.elim (fun h=>.inl (key _ h)) fun h=>.inr (key _ h)
theorem Zfy {f:FuncId} {args:List PV} {v:Value} (hb:HasBody Tryz.prog f) (h:∀ (F:Froz) (w:World) (vs:Array Value),Holds F w→RepL F noLoc vs args→Calls Tryz.prog f vs w fun e w'=>e=.returned v∧Below w.heap.size w w'):Spec Tryz.prog f args (· = .val v):=by
 refine⟨hb,fun F w vs hF hv=>(h F w vs hF hv).mono ?_⟩
 rintro en w' ⟨rfl,hbel⟩
 exact⟨v,.val v,F,rfl,rfl,.val _,hbel,Holds.kept hF hbel,fun _ _ h=>h,fun _ _=>rfl⟩
set_option maxHeartbeats 4000000 in
set_option maxRecDepth 100000 in
theorem Z5k (N:Nat) (hN:N<18446744073709551616):Spec Tryz.prog 55 [setN N] (· = .val (.string (textB N))):=by
 refine Zfy ⟨_,Tryz.func55,by kernel_rfl,by kernel_rfl⟩ fun F w vs hF hv=>?_
 have hv0:Rep F noLoc (vs.getD 0 undef) (.agg [.vec (words (digs N)) false]):=hv.2 0 (Nat.zero_lt_succ _)
 have hsz:vs.size=1:=hv.1
 obtain⟨az,has,h1,h2,h3⟩:=hv0.agg_inv
 have hvs:vs = #[.agg az]:=by
  refine Array.ext hsz fun i i1 i2=>?_
  have hi:i=0:=by omega
  subst hi
  rw [← has]; simp [Array.getD_eq_getD_getElem?,i1]
 subst hvs
 have has1:az = #[az.getD 0 undef]:=by
  refine Array.ext h1 fun i i1 i2=>?_
  have hi:i=0:=by have:az.size=1:=h1; omega
  subst hi
  simp [Array.getD_eq_getD_getElem?,i1]
 have h20:=h2 0 (Nat.zero_lt_succ _)
 have h30:Rep F noLoc (az.getD 0 undef) (.vec (words (digs N)) false):=h3 0 (Nat.zero_lt_succ _)
 rw [has1]
 generalize az.getD 0 undef=s0 at h20 h30
 refine (callsIn_wide (n:=3)).1 (callsIn_of_wp_marks Tryz.func55 rfl trivial ?_ rfl)
 simp only [Tryz.ntmps55,List.size_toArray,List.length_cons,List.length_nil,Nat.reduceAdd,Nat.reduceSub,Array.replicate_succ,Array.replicate_zero,List.push_toArray,List.append_toArray,List.nil_append,List.cons_append]
 gi_wp2
 have hB0:Lib.IsBuilderF TB TU (w.heap.size+1) (w.heap.size+1) (Lib.byteCells []) ((w.alloc (.cells #[s0] 42)).alloc (.cells #[.pointer none,.slice none 0 0] 158)):=.of (by
  have:=Lib.fresh_isBuilder TB TU (w.alloc (.cells #[s0] 42))
  rwa [World.size_alloc] at this)
 refine⟨trivial,(callsIn_wide.2 (Z8G (w.heap.size+1) (w.heap.size+1) [] 123 123 rfl _ hB0 (by decide) (by simp))).mono ?_⟩
 rintro e W1 ⟨rfl,hB1,hb1,hk1⟩
 have hx1:W1.heap[w.heap.size]?=some (.cells #[s0] 42 (0,0)):=by
  rw [hb1.block _ (Nat.lt_succ_self _),Lib.alloc_old _ _ _ (by rw [World.size_alloc]; exact Nat.lt_succ_self _)]
  exact heap_alloc_new w _
 have hlow1:Below w.heap.size w W1:=by
  refine Below.trans ?_ (hb1.mono (Nat.le_succ _))
  exact ((Below.refl _ w).alloc (Nat.le_refl _) _).alloc (by simp) _
 have hsz1:w.heap.size+2≤W1.heap.size:=by have:=hb1.size; simpa using this
 clear hb1 hk1
 have hl1:W1.cell? ⟨w.heap.size,0,none⟩=some s0:=by simp [World.cell?,hx1]
 gi_wp2
 refine⟨trivial,(callsIn_wide.2 (Zfw s0 h20 W1)).mono ?_⟩
 rintro e W2 ⟨rfl,tS,htS,rfl⟩
 gi_wp2
 have hcl:∀ x v,F x=some v→x.block<w.heap.size:=fun x v hx=>by
  have h1:=(hF.1 x v hx).2.2
  unfold World.cell? at h1
  split at h1
  · rename_i ho; exact (Array.getElem?_eq_some_iff.1 ho).1
  · cases h1
 let xa:Addr:=⟨W1.heap.size,0,none⟩
 let F1:Froz:=fun x=>if x=xa then some s0 else F x
 have hF1o:∀ x v,F x=some v→F1 x=some v:=fun x v hx=>by
  have h1:=hcl x v hx
  have:x≠xa:=fun e=>by rw [e] at h1; simp only [xa] at h1; omega
  simp only [F1]; rw [if_neg this]; exact hx
 obtain⟨W2,hW2⟩:∃ W2,W2=W1.alloc (.cells #[s0] tS):=⟨_,rfl⟩
 have hs2:W2.heap.size=W1.heap.size+1:=by rw [hW2,World.size_alloc]
 have hx2:W2.heap[W1.heap.size]?=some (.cells #[s0] tS (0,0)):=by rw [hW2]; exact heap_alloc_new W1 _
 have hlow2:Below w.heap.size w W2:=by rw [hW2]; exact hlow1.alloc (by omega) _
 have hB2:Lib.IsBuilderF TB TU (w.heap.size+1) (w.heap.size+1) (Lib.byteCells (txtS [])) W2:=by rw [hW2]; exact hB1.alloc _
 rw [← hW2]
 have hF2:Holds F1 W2:=⟨fun x v hx=>by
  simp only [F1] at hx
  split at hx
  · rename_i e; subst e; cases hx
    exact⟨rfl,h20,by simp [World.cell?,xa,hx2]⟩
  · have h1 := hF.1 x v hx
    exact⟨h1.1,h1.2.1,(hlow2.cell (hcl x v hx)).trans h1.2.2⟩,fun g j v hg=>hF1o _ _ (hF.2 g j v hg)⟩
 have hrep:RepL F1 noLoc #[.pointer (some xa)] [.cp [.vec (words (digs N)) false]]:=⟨rfl,fun i hi=>by
  have hi:i=0:=by simp at hi; omega
  subst hi
  refine .cp xa [.vec (words (digs N)) false] (fun _=>s0) rfl (fun j hj=>?_) fun j hj=>?_
  · have hj : j = 0 := by simp at hj; omega
    subst hj
    simp [F1,xa]
  · have hj : j = 0 := by simp at hj; omega
    subst hj
    exact h30.mono hF1o fun _ _ h=>h⟩
 have hseq:=(Z2V N hN).2 F1 W2 #[.pointer (some xa)] Fence.wide 2 (Z2p 2) hF2 hrep
 let I:List (MemT N)→World→Prop:=fun pre W=>Lib.IsBuilderF TB TU (w.heap.size+1) (w.heap.size+1) (Lib.byteCells (txtS (pre.map (·.val)))) W∧Below w.heap.size w W∧W.heap[W1.heap.size]?=some (.cells #[s0] tS (0,0))∧W2.heap.size≤W.heap.size
 have stepK:∀ {V V':World} {l1:List UInt8},Lib.IsBuilderF TB TU (w.heap.size+1) (w.heap.size+1) (Lib.byteCells l1) V→V.heap[W1.heap.size]?=some (.cells #[s0] tS (0,0))→Below (w.heap.size+1) V V'→Lib.OthersKept TU (some (w.heap.size+1)) V V' →
  KeepsFrom W2.heap.size V V'∧KpF F1 V V'∧V'.heap[W1.heap.size]?=some (.cells #[s0] tS (0,0))∧Below w.heap.size V V':=by
  intro V V' l1 hbd hbx hbl hok
  have hbc:∃ cs T fz,V.heap[w.heap.size+1]?=some (.cells cs T fz):=by
   rcases hbd with⟨_,v,hb,_⟩|⟨_,v,hb,_⟩<;>exact⟨_,_,_,hb⟩
  obtain⟨cs,T,fz,hbc⟩:=hbc
  have hbx':V'.heap[W1.heap.size]?=some (.cells #[s0] tS (0,0)):=hok _ _ hbx (by simp;omega) fun c fz e=>htS (by cases e; rfl)
  refine⟨⟨hbl.size,fun k o _ ho hnc=>hok k o ho (fun e=>?_) fun c fz e=>?_⟩,⟨fun x v hx hv=>?_,hbl.os,hbl.tape,hbl.output,hbl.size⟩,hbx',hbl.mono (Nat.le_succ _)⟩
  · have e := Option.some.inj e
    subst e
    rw [hbc] at ho; cases ho; cases hnc
  · subst e; cases hnc
  · simp only [F1] at hx
    split at hx
    · rename_i e; subst e; cases hx
      simp [World.cell?,xa,hbx']
    · exact (hbl.cell (Nat.lt_succ_of_lt (hcl x v hx))).trans hv
 refine wpIn_rangeFunc_ownH (gf:=70) (lb := #[.pointer (some xa)]) rfl (by decide) rfl trivial (enters_of Tryz.func70 (by kernel_rfl) rfl) hseq (fun h k=>h.trans k) ?kb (Below.refl _ _) (fun _=>rfl) I (fun _ _ _=>False) ?hI (fun _ _ _ _ _ h _ _=>h) ⟨hB2,hlow2,hx2,Nat.le_refl _⟩ (fun x a' _=>a'={ tmps := #[.agg #[s0],.pointer (some ⟨w.heap.size,0,none⟩),.string ⟨#[]⟩,.pointer (some ⟨w.heap.size+1,0,none⟩),.int .i64 x.val,.nilIface,.agg #[s0],.func (.func 70) #[] #[.pointer (some xa)],.int .i64 x.val,undef,undef,undef,undef,undef,undef,undef,undef],defers := [] }) (fun _ _ _ _ _ _ h _ _=>h) ?assign ?body ?done ?stop
 case kb =>
  intro W l o o' hl ho hc _
  exact KpF.grown (grownBy_putObj' W l o') fun r hr=>by cases hr; exact⟨o,ho,hc⟩
 case hI =>
  rintro pre W W' row ⟨a1,a2,a3,a4⟩ hg hr
  refine⟨Zfx a1 hg fun r e=>(hr r e).2,a2.grown hg (by omega) (fun k e=>by have:=(hr k e).1;omega),?_,Nat.le_trans a4 hg.size⟩
  rw [hg.block _ (Array.getElem?_eq_some_iff.1 a3).1 fun e=>by have:=(hr _ e.symm).1; omega]
  exact a3
 case assign =>
  intro l pre x W K hi hK
  gi_wp2
  exact hK _ _ (KeepsFrom.refl _ _) (KpF.refl _ _) hi rfl
 case body =>
  rintro l pre x a' W hl ⟨r,hr⟩ ⟨a1,a2,a3,a4⟩ rfl hlen
  have hx64:x.val<100:=Nat.lt_of_lt_of_le (Z1D x.2) (by decide)
  have hlt:∀ y∈pre.map (·.val),y<100:=fun y hy=>by
   obtain⟨z,_,rfl⟩:=List.mem_map.1 hy
   exact Nat.lt_of_lt_of_le (Z1D z.2) (by decide)
  have hml:(mem N).length≤64:=Z1c N
  have hln:=Zc5 _ hlt
  rw [List.length_map] at hln
  have hdg:=Z7G hx64
  obtain⟨T0,hT0⟩:∃ T0,Hid (txtS (pre.map (·.val))=T0):=⟨_,Any.hidU rfl⟩
  rw [hT0.out] at a1 hln
  have fok:=Z2i (Z2p 0) l 1
  gi_wp2
  refine⟨trivial,(fok.calls _ _ _ _ _ (ZgW (w.heap.size+1) (w.heap.size+1) _ W a1)).mono ?_⟩
  rintro e V0 ⟨rfl,rfl⟩
  have fin:∀ {V1 V2:World},Lib.IsBuilderF TB TU (w.heap.size+1) (w.heap.size+1) (Lib.byteCells (T0++(if 1<T0.length then [32] else []))) V1→V1.heap[W1.heap.size]?=some (.cells #[s0] tS (0,0))→Below w.heap.size w V1→W2.heap.size≤V1.heap.size→KeepsFrom W2.heap.size V0 V1→KpF F1 V0 V1 →
   Lib.IsBuilderF TB TU (w.heap.size+1) (w.heap.size+1) (Lib.byteCells (T0++(if 1<T0.length then [32] else [])++Go.Lib.decDigits x.val)) V2→Below (w.heap.size+1) V1 V2→Lib.OthersKept TU (some (w.heap.size+1)) V1 V2→KeepsFrom W2.heap.size V0 V2∧KpF F1 V0 V2∧I (pre ++ [x]) V2:=by
   intro V1 V2 p1 p2 p3 p4 p5 p6 p7 p8 p9
   obtain⟨q1,q2,q3,q4⟩:=stepK p1 p2 p8 p9
   refine⟨p5.trans q1,p6.trans q2,?_,p3.trans q4,q3,Nat.le_trans p4 q4.size⟩
   rw [List.map_append,List.map_singleton,Zfv,← List.append_assoc,hT0.out]
   exact p7
  gi_wp2
  · have hb1 : 1 < T0.length := by omega
    rw [if_pos hb1] at fin
    refine⟨trivial,(fok.calls _ _ _ _ _ (Z8G (w.heap.size+1) (w.heap.size+1) _ 32 32 rfl V0 a1 (by omega) (by omega))).mono ?_⟩
    rintro e V1 ⟨rfl,c1,c2,c3⟩
    obtain⟨d1,d2,d3,d4⟩:=stepK a1 a3 c2 c3
    gi_wp2
    refine⟨trivial,(fok.calls _ _ _ _ _ (Any.strconv_Itoa_small lays171 x.val hx64 V1)).mono ?_⟩
    rintro e V2 ⟨rfl,rfl⟩
    gi_wp2
    refine⟨trivial,(fok.calls _ _ _ _ _ (Zc6 (w.heap.size+1) (w.heap.size+1) _ _ V2 c1 (by
     show _+(Go.Lib.decDigits x.val).toArray.size≤_
     rw [List.length_append,List.size_toArray]; simp only [List.length_singleton];omega) (by have:=d4.size;omega))).mono ?_⟩
    rintro e V3 ⟨rfl,e1,e2,e3⟩
    gi_wp2
    exact fin c1 d3 (a2.trans d4) (Nat.le_trans a4 d4.size) d1 d2 e1 e2 e3
  · have hb1 : ¬ 1 < T0.length := by omega
    rw [if_neg hb1,List.append_nil] at fin
    refine⟨trivial,(fok.calls _ _ _ _ _ (Any.strconv_Itoa_small lays171 x.val hx64 V0)).mono ?_⟩
    rintro e V2 ⟨rfl,rfl⟩
    gi_wp2
    refine⟨trivial,(fok.calls _ _ _ _ _ (Zc6 (w.heap.size+1) (w.heap.size+1) _ _ V2 a1 (by
     show _+(Go.Lib.decDigits x.val).toArray.size≤_
     rw [List.size_toArray];omega) (by omega))).mono ?_⟩
    rintro e V3 ⟨rfl,e1,e2,e3⟩
    gi_wp2
    exact fin a1 a3 a2 a4 (KeepsFrom.refl _ _) (KpF.refl _ _) e1 e2 e3
 case done =>
  rintro D xs W hD hS ⟨a1,a2,a3,a4⟩ hK
  gi_wp2
  have hlt:∀ y∈mem N,y<100:=fun y hy=>Nat.lt_of_lt_of_le (Z1D hy) (by decide)
  have hml:(mem N).length≤64:=Z1c N
  have hln:=Zc5 _ hlt
  rw [hS] at a1
  refine⟨trivial,(callsIn_wide.2 (Z8G (w.heap.size+1) (w.heap.size+1) (txtS (mem N)) 125 125 rfl W a1 (by omega) (by omega))).mono ?_⟩
  rintro e V1 ⟨rfl,c1,c2,c3⟩
  obtain⟨d1,d2,d3,d4⟩:=stepK a1 a3 c2 c3
  have hK1:=d1.same D _ hD hK rfl
  gi_wp2
  refine⟨trivial,(callsIn_wide.2 (ZgX (w.heap.size+1) (w.heap.size+1) _ V1 c1 (by have:=d4.size;omega))).mono ?_⟩
  rintro e V2 ⟨rfl,f2,f3⟩
  obtain⟨g1,g2,g3,g4⟩:=stepK c1 d3 f2 f3
  have hK2:=g1.same D _ hD hK1 rfl
  gi_wp2
  refine⟨by simp,.inl ⟨_,_,rfl,run_takeDeferred hK2,?_⟩⟩
  refine⟨_,results_tmp rfl _ _ _,rfl,((a2.trans d4).trans g4).grown (grownBy_putObj' V2 D _) (by have:=d4.size; have:=g4.size;omega) fun k e=>by cases e; omega⟩
 case stop =>
  rintro D c pre W _ _ h _
  exact h.elim
end Go.Proofs.YtjpkfigmmmngnaaGreatDoor
namespace Go.Proofs.YtjpkfigmmmngnaaGreatDoor
open Go.RowKit
attribute [local irreducible] aw opsK dK
theorem Zc7 {f:FuncId} {args:List PV} {v:Value} (hb:HasBody Tryz.prog f) (h:∀ (F:Froz) (w:World) (vs:Array Value),Holds F w→RepL F noLoc vs args→Calls Tryz.prog f vs w fun e w'=>e=.returned v∧Below w.heap.size w w'):Spec Tryz.prog f args (· = .val v):=by
 refine⟨hb,fun F w vs hF hv=>(h F w vs hF hv).mono ?_⟩
 rintro en w' ⟨rfl,hbel⟩
 exact⟨v,.val v,F,rfl,rfl,.val _,hbel,Holds.kept hF hbel,fun _ _ h=>h,fun _ _=>rfl⟩
def numS (k:Nat):ByteArray:=⟨(Go.Lib.decDigits k).toArray⟩
theorem Z3s (k:Nat) (hk:k<100):Spec Tryz.prog 104 [.val (.int .i64 (k:Int))] (· = .val (.string (numS k))):=by
 refine Zc7 ⟨_,Tryz.func104,by kernel_rfl,by kernel_rfl⟩ fun F w vs hF hv=>?_
 obtain rfl:vs = #[.int .i64 (k:Int)]:=by
  refine Array.ext hv.1 fun i h1 h2=>?_
  have hi:i=0:=by simp at h2; omega
  subst hi
  have:=(show Rep F noLoc (vs.getD 0 undef) (.val (.int .i64 (k:Int))) from hv.2 0 (Nat.zero_lt_succ _)).val_inv
  simpa [Array.getD_eq_getD_getElem?,h1] using this
 refine (Any.strconv_Itoa_small lays171 k hk w).mono ?_
 rintro e w' ⟨rfl,rfl⟩
 exact⟨rfl,Below.refl _ _⟩
def strC (x:ByteArray):List PV := [.val (.string x)]
theorem Zr (l:List ByteArray):pureLL (l.map strC):=Z1P (enc:=strC) (fun _=>⟨trivial,trivial⟩) l
def joinS (l:List ByteArray) (sep:ByteArray):ByteArray:=⟨(Go.Lib.join (l.map (·.data.toList)) sep.data.toList).toArray⟩
theorem Z2N (l:List ByteArray) (fl:Bool) (sep:ByteArray) (hl:l.length≤140737488355328) (hlen:(Go.Lib.join (l.map (·.data.toList)) sep.data.toList).length≤140737488355328):Spec Tryz.prog 100 [.vec (l.map strC) fl,.val (.string sep)] (· = .val (.string (joinS l sep))):=by
 refine Zc7 ⟨_,Tryz.func100,by kernel_rfl,by kernel_rfl⟩ fun F w vs hF hv=>?_
 have hv1:Rep F noLoc (vs.getD 0 undef) (.vec (l.map strC) fl):=hv.2 0 (show 0<2 by decide)
 have hv2:vs.getD 1 undef=.string sep:=(show Rep F noLoc (vs.getD 1 undef) (.val (.string sep)) from hv.2 1 (show 1<2 by decide)).val_inv
 have hvs:vs = #[vs.getD 0 undef,vs.getD 1 undef]:=by
  refine Array.ext hv.1 fun i h1 h2=>?_
  have hs:vs.size=2:=hv.1
  have hi:i=0 ∨ i=1:=by omega
  rcases hi with rfl|rfl<;>simp [Array.getD_eq_getD_getElem?,h1]
 rw [hvs,hv2]
 rcases hv1.vec_inv with⟨h0,hq⟩|⟨x,cap,esz,cs,hq,hs,hcap,hfull,hmax,he,hF1,hR⟩
 · have h0 : l = [] := List.map_eq_nil_iff.1 h0
   subst h0
   rw [hq]
   refine (Any.strings_Join_none lays156 builderExtra156 none 0 sep w).mono ?_
   rintro e w' ⟨rfl,rfl⟩
   exact⟨rfl,Below.refl _ _⟩
 · rw [hq, List.length_map]
   by_cases hne:l = []
   · subst hne
     refine (Any.strings_Join_none lays156 builderExtra156 (some x) cap sep w).mono ?_
     rintro e w' ⟨rfl,rfl⟩
     exact⟨rfl,Below.refl _ _⟩
   · have hsp := hs (by simpa using hne)
     obtain⟨bk,o,sp⟩:=x
     dsimp only at hsp
     subst hsp
     rw [List.length_map] at hcap
     have hpos:0<l.length:=List.length_pos_iff.2 hne
     have hez:esz=1:=by
      have:=he 0 (by simpa using hpos)
      rw [← this]
      simp [List.getD_eq_getElem?_getD,hpos,strC]
     subst hez
     have hcell:∀ (j:Nat) y,l[j]?=some y→F ⟨bk,o+j,none⟩=some (.string y):=fun j y hj=>by
      have hjl:=(List.getElem?_eq_some_iff.1 hj).1
      have h1:=hF1 j 0 (by simpa using hjl) (by decide)
      have h2:=hR j 0 (by simpa using hjl) (by decide)
      have h3:((l.map strC).getD j []).getD 0 pvu=.val (.string y):=by simp [List.getD_eq_getElem?_getD,hj,strC]
      rw [h3] at h2
      have h4:=h2.val_inv
      rw [h4] at h1
      simpa using h1
     refine Any.strings_Join lays156 builderExtra156 bk o cap l sep w (fun j y hj=>(hF.1 _ _ (hcell j y hj)).2.2) ?_ hl hcap hlen
     obtain⟨y,hy⟩:∃ y,l[0]?=some y:=⟨_,List.getElem?_eq_getElem hpos⟩
     have:=(hF.1 _ _ (hcell 0 y hy)).2.2
     unfold World.cell? at this
     split at this
     · rename_i ho; exact (Array.getElem?_eq_some_iff.1 ho).1
     · cases this
def litS (c:Cu) (r:Nat):List ByteArray:=(if c.1.testBit r then [numS r] else [])++if c.2.testBit r then [⟨#[33]⟩++numS r] else []
def litsS (c:Cu) (rs:List Nat):List ByteArray:=rs.flatMap (litS c)
def textS (c:Cu):ByteArray:=if litsS c (mem (c.1 ||| c.2)) = [] then ⟨#[102,117,108,108]⟩ else joinS (litsS c (mem (c.1 ||| c.2))) ⟨#[32]⟩
theorem Zdq (c:Cu) (rs:List Nat) (r:Nat):litsS c (rs ++ [r])=litsS c rs++litS c r:=by unfold litsS; rw [List.flatMap_append]; simp
theorem ZgY (c:Cu) (r:Nat):(litS c r).length≤2:=by unfold litS; rw [List.length_append]; split<;>split<;>simp
theorem Z6S (c:Cu):∀ rs:List Nat,(litsS c rs).length≤2*rs.length
 | []=>by simp [litsS]
 | r :: rs => by
   have h1:=ZgY c r
   have h2:=Z6S c rs
   unfold litsS at h2 ⊢
   rw [List.flatMap_cons,List.length_append,List.length_cons]
   omega
theorem Z6T {k:Nat} (hk:k<100):(numS k).data.toList.length≤2:=by
 show (Go.Lib.decDigits k).toArray.toList.length≤2
 by_cases h:k<10
 · rw [Go.Lib.decDigits_one h]; simp
 · rw [Go.Lib.decDigits_two h hk]; simp
theorem Zfz (x:ByteArray):((⟨#[33]⟩:ByteArray)++x).data.toList=33 :: x.data.toList:=by rw [ByteArray.data_append]; simp
theorem Zdr {c:Cu} {rs:List Nat} (h:∀ r∈rs,r<100):∀ x∈litsS c rs,x.data.toList.length≤3:=fun x hx=>by
 obtain⟨r,hr,hx⟩:=List.mem_flatMap.1 hx
 have hn:=Z6T (h r hr)
 unfold litS at hx
 rcases List.mem_append.1 hx with hx|hx
 · split at hx
   · rw [List.mem_singleton] at hx; subst hx; omega
   · cases hx
 · split at hx
   · rw [List.mem_singleton] at hx; subst hx
     rw [Zfz,List.length_cons]; omega
   · cases hx
theorem Zb5 {l:List (List UInt8)} {k:Nat} (h:∀ x∈l,x.length≤k):Go.Lib.lens l≤k*l.length:=by
 induction l with
 | nil=>simp [Go.Lib.lens]
 | cons x l ih =>
   have h1:=h x (List.mem_cons_self ..)
   have h2:=ih fun y hy=>h y (List.mem_cons_of_mem _ hy)
   have:Go.Lib.lens (x :: l)=x.length+Go.Lib.lens l:=by simp [Go.Lib.lens]
   rw [this,List.length_cons,Nat.mul_succ]; omega
theorem ZgZ {l:List ByteArray} (h:∀ x∈l,x.data.toList.length≤3) (hl:l.length≤1000) (sep:ByteArray) (hs:sep.data.toList.length≤10):(Go.Lib.join (l.map (·.data.toList)) sep.data.toList).length≤140737488355328:=by
 cases l with
 | nil=>simp [Go.Lib.join_nil]
 | cons x l =>
   rw [List.map_cons,Go.Lib.join_length]
   have:=Zb5 (k:=3) (l:=(x :: l).map (·.data.toList)) fun y hy=>by
    obtain⟨z,hz,rfl⟩:=List.mem_map.1 hy
    exact h z hz
   rw [List.map_cons] at this
   simp only [List.length_cons,List.length_map] at this hl ⊢
   have h2:sep.data.toList.length*l.length≤10*l.length:=Nat.mul_le_mul_right _ hs
   omega
set_option maxRecDepth 100000 in
set_option maxHeartbeats 4000000 in
theorem Zds (c:Cu) (hc:Ok64 c):Spec Tryz.prog 54 [cuP c] (· = .val (.string (textS c))):=by
 have hor:=Z3i hc.1 hc.2
 refine Z3 ok54 (Nat.le_of_ble_eq_true rfl) fun C hC=>?_
 refine Zj ?_
 refine Z9 ?_
 refine Z4 rfl rfl rfl ?_
 (repeat'(first|refine Z5 5 ?_|refine Z1 5 ?_|refine st ?_|(apply B<;>intro hb<;>try cases hb)))<;>try refine At.mk ?_
 refine Zf (Z1s (id:=0) (i0:=0) (j0:=0) rfl (by decide) (by decide) rfl 1 (by decide) (by decide)) ?_
 (repeat'(first|refine Z5 9 ?_|refine Z1 9 ?_|refine st ?_|(apply B<;>intro hb<;>try cases hb)))<;>try refine At.mk ?_
 refine Z6 (Z3H c.1 c.2 hc.1 hc.2) rfl rfl rfl ⟨Z0 _,Z0 _,trivial⟩ rfl ?_
 have hM:textS c=if litsS c (mem (c.1 ||| c.2)) = [] then ⟨#[102,117,108,108]⟩ else joinS (litsS c (mem (c.1 ||| c.2))) ⟨#[32]⟩:=rfl
 rw [hM]
 generalize c.1 ||| c.2=M at hor ⊢
 refine Z6 (Z2c M) rfl rfl rfl ⟨Z0 _,trivial⟩ rfl ?_
 (refine go ?_;repeat' (apply B<;>intro hb<;>try cases hb))
 refine Z3F (X:=List Nat) hC (caps := [.cp [.vec (words (digs M)) false]]) [(1,.cp (cuC c)),(3,.ptr 0 0 0),(10,.fn 70 [.cp [.vec (words (digs M)) false]])]
  (fun z => [(0,⟨1,[[.own 1]]⟩),(1,⟨1,(litsS c z).map strC⟩)]) rfl ⟨⟨Zc _,trivial⟩,trivial⟩ (Z2V M hor) (fun _=>rfl)
  (fun ex pre z=>ex=.normal∧z=pre.map (·.val)) 2 (by decide) [] ⟨rfl,rfl⟩
  (Z4s (EnvQ.mem (ρ := fun i => i) (m := 2) (L := [(1, .cp (cuC c)), (3, .ptr 0 0 0), (10, .fn 70 [.cp [.vec (words (digs M)) false]])]) ⟨⟨_, rfl, .pure _ (Z1k c)⟩, ⟨_, rfl, .ptr (ρ := fun i => i) 0 0 0 (by decide)⟩, ⟨_, rfl, .pure _ ⟨⟨Zc _, trivial⟩, trivial⟩⟩, trivial⟩)
    (HeapQ.mem (ρ:=fun i=>i) (m:=2) (L := [(0,⟨1,[[.own 1]]⟩),(1,⟨1,(litsS c []).map strC⟩)]) ⟨⟨by decide,_,rfl,RenB.single ⟨.own (ρ:=fun i=>i) 1 (by decide),trivial⟩ rfl⟩,⟨by decide,_,rfl,.same _ trivial⟩,trivial⟩) hC (by decide))
  (fun z q hq=>by simp at hq; rcases hq with rfl|rfl<;>exact Nat.zero_lt_succ _) _ (fun x=>rfl) ?_ ?_ ?_
 · rintro C2 hC2 pre x z ⟨-, rfl⟩ hlen
   have hx:=Z1D x.2
   have hml:=Z1c M
   have hsn:=Zdq c (pre.map (·.val)) x.val
   have hll:=Z6S c (pre.map (·.val))
   rw [List.length_map] at hll
   generalize litsS c (pre.map (·.val))=acc at hsn hll ⊢
   have hn:=Z6T (show x.val<100 by omega)
   have hcat:∀ (e:Env) (h:Heap) (n:Nat) (q:Operand),ev e q=some (.val (.string (numS x.val)))→dEval (.bin .add .num (.const (.string ⟨#[33]⟩)) q) e h n=some (.val (.string (⟨#[33]⟩++numS x.val)),h):=fun e h n q hq=>by
    have hsz:(⟨#[33]⟩:ByteArray).size+(numS x.val).size≤9223372036854775807:=by
     have:(numS x.val).size=(numS x.val).data.toList.length:=by rw [Array.length_toList]; rfl
     rw [this]
     show 1+_≤_
     omega
    have h1:ev e (.const (.string ⟨#[33]⟩))=some (.val (.string ⟨#[33]⟩)):=rfl
    simp only [dEval,h1,hq,pbin,sbin,if_pos hsz,Option.map]
   unfold litS at hsn
   (repeat'(first|refine Z5 15 ?_|refine Z1 15 ?_|refine st ?_|(apply B<;>intro hb<;>try cases hb)))<;>try refine At.mk ?_
   refine Z6 (Z6L c.1 hc.1 x.val) rfl rfl rfl ⟨Z0 _,trivial,trivial⟩ rfl ?_
   cases h1:c.1.testBit x.val
   · rw [h1, if_neg (by decide), List.nil_append] at hsn
     (repeat'(first|refine Z5 24 ?_|refine Z1 24 ?_|refine st ?_|(apply B<;>intro hb<;>try cases hb)))<;>try refine At.mk ?_
     refine Z6 (Z6L c.2 hc.2 x.val) rfl rfl rfl ⟨Z0 _,trivial,trivial⟩ rfl ?_
     cases h2:c.2.testBit x.val
     · rw [h2, if_neg (by decide), List.append_nil] at hsn
       (refine go ?_;repeat' (apply B<;>intro hb<;>try cases hb))
       exact⟨.inl rfl,pre.map (·.val) ++ [x.val],fun i=>i,⟨rfl,by rw [List.map_append]; rfl⟩,fun i hi=>rfl,ZS,
        ⟨⟨_,rfl,.pure _ (Z1k c)⟩,⟨_,rfl,.ptr (ρ:=fun i=>i) 0 0 0 (by decide)⟩,⟨_,rfl,.pure _ ⟨⟨Zc _,trivial⟩,trivial⟩⟩,trivial⟩,
        ⟨⟨by decide,_,rfl,RenB.single ⟨.own (ρ:=fun i=>i) 1 (by decide),trivial⟩ rfl⟩,⟨by decide,_,rfl,by rw [hsn]; exact .same _ (Zr _)⟩,trivial⟩⟩
     · rw [h2, if_pos rfl] at hsn
       (repeat'(first|refine Z5 27 ?_|refine Z1 27 ?_|refine st ?_|(apply B<;>intro hb<;>try cases hb)))<;>try refine At.mk ?_
       refine Zq (Z3s x.val (by omega)) rfl rfl rfl ⟨trivial,trivial⟩ ?_
       refine Zu (hcat _ _ _ _ rfl) rfl rfl ?_
       (repeat'(first|refine Z5 30 ?_|refine Z1 30 ?_|refine st ?_|(apply B<;>intro hb<;>try cases hb)))<;>try refine At.mk ?_
       refine Zu (ZE (k:=1) (m := [strC (⟨#[33]⟩++numS x.val)]) (fl:=true) rfl rfl rfl (fun q hq=>by rw [List.mem_singleton] at hq; subst hq; rfl) rfl (by
        show ((acc.map strC).length+1)*16≤_
        rw [List.length_map];omega)) rfl rfl ?_
       (refine go ?_;repeat' (apply B<;>intro hb<;>try cases hb))
       refine⟨.inl rfl,pre.map (·.val) ++ [x.val],mv 1 7,⟨rfl,by rw [List.map_append]; rfl⟩,Z3V (by decide),ZH rfl,
        ⟨⟨_,rfl,.pure _ (Z1k c)⟩,⟨_,rfl,.ptr (ρ:=mv 1 7) 0 0 0 (by decide)⟩,⟨_,rfl,.pure _ ⟨⟨Zc _,trivial⟩,trivial⟩⟩,trivial⟩,
        ⟨⟨by decide,_,rfl,RenB.single ⟨.own (ρ:=mv 1 7) 1 (by decide),trivial⟩ rfl⟩,⟨by decide,_,rfl,?_⟩,trivial⟩⟩
       show RenB _ _ ⟨1,acc.map strC ++ [strC (⟨#[33]⟩++numS x.val)]⟩ ⟨1,(litsS c (pre.map (·.val) ++ [x.val])).map strC⟩
       have hp:=Zr (acc ++ [⟨#[33]⟩++numS x.val])
       rw [hsn,List.map_append]
       rw [List.map_append] at hp
       exact .same _ hp
   · rw [h1, if_pos rfl] at hsn
     (repeat'(first|refine Z5 18 ?_|refine Z1 18 ?_|refine st ?_|(apply B<;>intro hb<;>try cases hb)))<;>try refine At.mk ?_
     refine Zq (Z3s x.val (by omega)) rfl rfl rfl ⟨trivial,trivial⟩ ?_
     (repeat'(first|refine Z5 20 ?_|refine Z1 20 ?_|refine st ?_|(apply B<;>intro hb<;>try cases hb)))<;>try refine At.mk ?_
     refine Zu (ZE (k:=1) (m := [strC (numS x.val)]) (fl:=true) rfl rfl rfl (fun q hq=>by rw [List.mem_singleton] at hq; subst hq; rfl) rfl (by
      show ((acc.map strC).length+1)*16≤_
      rw [List.length_map];omega)) rfl rfl ?_
     (repeat'(first|refine Z5 24 ?_|refine Z1 24 ?_|refine st ?_|(apply B<;>intro hb<;>try cases hb)))<;>try refine At.mk ?_
     refine Z6 (Z6L c.2 hc.2 x.val) rfl rfl rfl ⟨Z0 _,trivial,trivial⟩ rfl ?_
     cases h2:c.2.testBit x.val
     · rw [h2, if_neg (by decide), List.append_nil] at hsn
       (refine go ?_;repeat' (apply B<;>intro hb<;>try cases hb))
       refine⟨.inl rfl,pre.map (·.val) ++ [x.val],mv 1 6,⟨rfl,by rw [List.map_append]; rfl⟩,Z3V (by decide),ZH rfl,
        ⟨⟨_,rfl,.pure _ (Z1k c)⟩,⟨_,rfl,.ptr (ρ:=mv 1 6) 0 0 0 (by decide)⟩,⟨_,rfl,.pure _ ⟨⟨Zc _,trivial⟩,trivial⟩⟩,trivial⟩,
        ⟨⟨by decide,_,rfl,RenB.single ⟨.own (ρ:=mv 1 6) 1 (by decide),trivial⟩ rfl⟩,⟨by decide,_,rfl,?_⟩,trivial⟩⟩
       show RenB _ _ ⟨1,acc.map strC ++ [strC (numS x.val)]⟩ ⟨1,(litsS c (pre.map (·.val) ++ [x.val])).map strC⟩
       have hp:=Zr (acc ++ [numS x.val])
       rw [hsn,List.map_append]
       rw [List.map_append] at hp
       exact .same _ hp
     · rw [h2, if_pos rfl] at hsn
       (repeat'(first|refine Z5 27 ?_|refine Z1 27 ?_|refine st ?_|(apply B<;>intro hb<;>try cases hb)))<;>try refine At.mk ?_
       refine Zq (Z3s x.val (by omega)) rfl rfl rfl ⟨trivial,trivial⟩ ?_
       refine Zu (hcat _ _ _ _ rfl) rfl rfl ?_
       (repeat'(first|refine Z5 30 ?_|refine Z1 30 ?_|refine st ?_|(apply B<;>intro hb<;>try cases hb)))<;>try refine At.mk ?_
       refine Zu (ZE (k:=6) (m := [strC (⟨#[33]⟩++numS x.val)]) (fl:=true) rfl rfl rfl (fun q hq=>by rw [List.mem_singleton] at hq; subst hq; rfl) rfl (by
        show ((acc.map strC ++ [strC (numS x.val)]).length+1)*16≤_
        rw [List.length_append,List.length_map,List.length_singleton];omega)) rfl rfl ?_
       (refine go ?_;repeat' (apply B<;>intro hb<;>try cases hb))
       refine⟨.inl rfl,pre.map (·.val) ++ [x.val],mv 1 13,⟨rfl,by rw [List.map_append]; rfl⟩,Z3V (by decide),ZH rfl,
        ⟨⟨_,rfl,.pure _ (Z1k c)⟩,⟨_,rfl,.ptr (ρ:=mv 1 13) 0 0 0 (by decide)⟩,⟨_,rfl,.pure _ ⟨⟨Zc _,trivial⟩,trivial⟩⟩,trivial⟩,
        ⟨⟨by decide,_,rfl,RenB.single ⟨.own (ρ:=mv 1 13) 1 (by decide),trivial⟩ rfl⟩,⟨by decide,_,rfl,?_⟩,trivial⟩⟩
       show RenB _ _ ⟨1,acc.map strC ++ [strC (numS x.val)] ++ [strC (⟨#[33]⟩++numS x.val)]⟩ ⟨1,(litsS c (pre.map (·.val) ++ [x.val])).map strC⟩
       have hp:=Zr (acc++([numS x.val] ++ [⟨#[33]⟩++numS x.val]))
       rw [hsn,List.map_append,List.map_append,← List.append_assoc]
       rw [List.map_append,List.map_append,← List.append_assoc] at hp
       exact .same _ hp
 · rintro xs z hxs ⟨-, rfl⟩
   rw [hxs]
   have hsz:=Zdr (c:=c) (rs:=mem M) fun r hr=>by have:=Z1D hr; omega
   have hll:=Z6S c (mem M)
   have hml:=Z1c M
   generalize litsS c (mem M)=l at hsz hll ⊢
   (repeat'(first|refine Z5 33 ?_|refine Z1 33 ?_|refine st ?_|(apply B<;>intro hb<;>try cases hb)))<;>try refine At.mk ?_
   cases l with
   | nil =>
     refine Z7 (ZG (v:=true) rfl rfl) rfl rfl ?_
     (refine go ?_;repeat' (apply B<;>intro hb<;>try cases hb))
     exact Z2 rfl trivial rfl
   | cons y l =>
     refine Z7 (ZG (v:=false) rfl (by simp;omega)) rfl rfl ?_
     repeat' (first|refine Z5 34 ?_|(first|refine st ?_|(apply B<;>intro hb<;>try cases hb)))
     refine At.mk ?_
     refine Zf (Z1A (ob:=0) (id:=1) (i0:=0) (j0:=0) rfl rfl (by decide) (Zr _) (Nat.le_of_ble_eq_true rfl) (Nat.le_of_ble_eq_true rfl) rfl) ?_
     (repeat'(first|refine Z5 35 ?_|refine Z1 35 ?_|refine st ?_|(apply B<;>intro hb<;>try cases hb)))<;>try refine At.mk ?_
     refine Z6 (Z2N (y :: l) false ⟨#[32]⟩ (by omega) (ZgZ hsz (by omega) _ (by decide))) rfl rfl rfl ⟨Zr _,trivial,trivial⟩ rfl ?_
     (refine go ?_;repeat' (apply B<;>intro hb<;>try cases hb))
     exact Z2 rfl trivial (by rw [if_neg (by simp)])
 · rintro ex pre z - ⟨rfl,_⟩ (h|⟨id,h⟩)<;>cases h
end Go.Proofs.YtjpkfigmmmngnaaGreatDoor
namespace Go.Proofs.YtjpkfigmmmngnaaGreatDoor
open Go.RowKit
section
variable {P:Program} {C:Ctx} {Fr:Nat→Prop} {e:Env} {h:Heap} {F:Froz} {φ:Locs} {a:Act} {w:World}
theorem MSpec.frame {f:FuncId} {b:Bx} {rest:List PV} {mk:Nat→PV} {R:Bx→Prop} (hs:MSpec P f b rest mk R) (hmk:Mk mk) (hpb:pureLL b.elems) (hpr:pureL rest) {k n:Nat} (hb:h k=some b) :
 ISpec P f n (.own k :: rest) h fun n' r h'=>∃ b',n'=n+1∧r=mk n∧h'=(h.del k).upd n b'∧pureLL b'.elems∧R b':=by
 refine⟨hs.1,fun C e F φ a w vs s hv=>(hs.run hmk hpb hpr (Nat.le_refl n) hb s hv).mono ?_⟩
 rintro en w' ⟨v,b',F',φ',rfl,⟨h1,h2⟩,hr,s'⟩
 exact⟨v,mk n,n+1,(h.del k).upd n b',F',φ',rfl,⟨b',rfl,rfl,rfl,h1,h2⟩,hr,{ s' with free:=fun i hi=>s'.free i ⟨by omega,by omega⟩ }⟩
theorem Zb6 {f nt:Nat} {ac:ACode} {rs:List ARes} (hf:FnOk P f nt ac rs) {b:Bx} {rest:List PV} {mk:Nat→PV} {R:Bx→Prop} (hn:rest.length+1≤nt) (hk:∀ C:Ctx,C.dom 1→aw P C ac (retI rs fun n' r h'=>∃ id b',r=mk id∧h' id=some b'∧pureLL b'.elems∧R b') 1 (argEnv (.own 0 :: rest)) (heapL [(0,b)])):MSpec P f b rest mk R :=
 Z1H hf hn hk
theorem ZhR {f:Operand} {args:List Operand} {g:FuncId} {caps as0 rest:List PV} {b:Bx} {k:Nat} {mk:Nat→PV} {R:Bx→Prop} {d:Option Nat} {os:List AOper} {n:Nat} {K:Nat→Env→Heap→Prop} (hs:MSpec P g b rest mk R) (hmk:Mk mk) (hf:ev e f=some (.fn g caps)) (ha:evs e args=some as0) (hr:as0++caps=.own k :: rest) (hb:h k=some b) (hpb:pureLL b.elems) (hpr:pureL rest)
 (hk:∀ b',pureLL b'.elems→R b'→opsK P os (n+1) (updO e d (mk n)) ((h.del k).upd n b') K):opsK P (⟨d,.call f args,none⟩ :: os) n e h K:=by
 refine ZT hf ha (R:=fun n' r h'=>∃ b',n'=n+1∧r=mk n∧h'=(h.del k).upd n b'∧pureLL b'.elems∧R b') (by rw [hr]; exact hs.frame hmk hpb hpr hb) ?_
 rintro n' r h' ⟨b',rfl,rfl,rfl,h1,h2⟩
 exact hk b' h1 h2
end
end Go.Proofs.YtjpkfigmmmngnaaGreatDoor
namespace Go.Proofs.YtjpkfigmmmngnaaGreatDoor
open Go.RowKit
attribute [local irreducible] aw opsK dK
structure NamesW (tp:PV) (nm:Nat→ByteArray):Prop where
 one:tp.flat=true
 cell:tp.cells = [tp]
 pure:tp.pure
 len:∀ r,r<64→(nm r).data.toList.length≤100
 name:∀ r:Nat,r<64→∃ s b,Spec Tryz.prog 139 [tp,.val (.int .i64 (r:Int))] (· = .tup [.val (.string s),.val (.bool b)])∧nm r=if b then s else numS r
def partB (word:ByteArray) (N:Nat) (nm:Nat→ByteArray):ByteArray:=word++joinS ((mem N).map nm) ⟨#[32,97,110,100,32]⟩
theorem Z6U {l:List ByteArray} (h:∀ x∈l,x.data.toList.length≤100) (hl:l.length≤64) (sep:ByteArray) (hs:sep.data.toList.length≤10):(Go.Lib.join (l.map (·.data.toList)) sep.data.toList).length≤100000:=by
 cases l with
 | nil=>simp [Go.Lib.join_nil]
 | cons x l =>
   rw [List.map_cons,Go.Lib.join_length]
   have:=Zb5 (k:=100) (l:=(x :: l).map (·.data.toList)) fun y hy=>by
    obtain⟨z,hz,rfl⟩:=List.mem_map.1 hy
    exact h z hz
   rw [List.map_cons] at this
   simp only [List.length_cons,List.length_map] at this hl ⊢
   have h2:sep.data.toList.length*l.length≤10*l.length:=Nat.mul_le_mul_right _ hs
   omega
theorem bsize (x:ByteArray):x.size=x.data.toList.length:=by rw [Array.length_toList]; rfl
theorem Zc8 {e:Env} {h:Heap} {n:Nat} {p q:Operand} {x y:ByteArray} (hp:ev e p=some (.val (.string x))) (hq:ev e q=some (.val (.string y))) (hx:x.size≤1000000) (hy:y.size≤1000000):dEval (.bin .add .num p q) e h n=some (.val (.string (x++y)),h):=by
 have hsz:x.size+y.size≤9223372036854775807:=by omega
 simp only [dEval,hp,hq,pbin,sbin,if_pos hsz,Option.map]
set_option maxHeartbeats 8000000 in
theorem Z7H {tp:PV} {nm:Nat→ByteArray} (hN:NamesW tp nm) (word:ByteArray) (hw:word.size≤100) (N:Nat) (h64:N<18446744073709551616) (hne:N≠0):NSpec Tryz.prog 99 [.vec [] true,.val (.string word),setN N,tp] .own ⟨1,[partB word N nm].map strC⟩:=by
 have htp:pureL [tp]:=⟨hN.pure,trivial⟩
 have hfl:=hN.one
 have hce:=hN.cell
 refine Z2Y ok99 (Nat.le_of_ble_eq_true rfl) fun C hC=>?_
 refine Zj ?_
 refine Z9 ?_
 refine Z4 rfl rfl rfl ?_
 refine Z4 (show fEval (.box (.tmp 3)) _ _ _=some (.cp [tp],_) by (show (match some tp with|some p=>if p.flat&&decide (0<p.cells.length) then some (PV.cp p.cells,_) else none|none=>none)=_; simp only [hfl,hce]; rfl)) rfl rfl ?_
 (refine go ?_;repeat' (apply B<;>intro hb<;>try cases hb))
 refine Z6 (Z2b N h64) rfl rfl rfl ⟨Z0 N,trivial⟩ rfl ?_
 rw [decide_eq_false hne]
 (repeat'(first|refine Z5 17 ?_|refine Z1 17 ?_|refine st ?_|(apply B<;>intro hb<;>try cases hb)))<;>try refine At.mk ?_
 refine Zf (Z1s (id:=0) (i0:=0) (j0:=0) rfl (by decide) (by decide) rfl 1 (by decide) (by decide)) ?_
 refine Z6 (Z2c N) rfl rfl rfl ⟨Z0 _,trivial⟩ rfl ?_
 (refine go ?_;repeat' (apply B<;>intro hb<;>try cases hb))
 refine Z3F (X:=List Nat) hC (caps := [.cp [.vec (words (digs N)) false]]) [(0,.vec [] true),(1,.val (.string word)),(7,.cp [tp]),(9,.ptr 0 0 0),(17,.fn 70 [.cp [.vec (words (digs N)) false]])]
  (fun z => [(0,⟨1,[[.own 1]]⟩),(1,⟨1,((z.map nm).map strC)⟩)]) rfl ⟨⟨Zc _,trivial⟩,trivial⟩ (Z2V N h64) (fun _=>rfl)
  (fun ex pre z=>ex=.normal∧z=pre.map (·.val)) 2 (by decide) [] ⟨rfl,rfl⟩
  (Z4s (EnvQ.mem (ρ := fun i => i) (m := 2) (L := [(0, .vec [] true), (1, .val (.string word)), (7, .cp [tp]), (9, .ptr 0 0 0), (17, .fn 70 [.cp [.vec (words (digs N)) false]])]) ⟨⟨_, rfl, .pure _ trivial⟩, ⟨_, rfl, .pure _ trivial⟩, ⟨_, rfl, .pure _ htp⟩, ⟨_, rfl, .ptr (ρ := fun i => i) 0 0 0 (by decide)⟩, ⟨_, rfl, .pure _ ⟨⟨Zc _, trivial⟩, trivial⟩⟩, trivial⟩)
    (HeapQ.mem (ρ:=fun i=>i) (m:=2) (L := [(0,⟨1,[[.own 1]]⟩),(1,⟨1,((([]:List Nat).map nm).map strC)⟩)]) ⟨⟨by decide,_,rfl,RenB.single ⟨.own (ρ:=fun i=>i) 1 (by decide),trivial⟩ rfl⟩,⟨by decide,_,rfl,.same _ trivial⟩,trivial⟩) hC (by decide))
  (fun z q hq=>by simp at hq; rcases hq with rfl|rfl<;>exact Nat.zero_lt_succ _) _ (fun x=>rfl) ?_ ?_ ?_
 · rintro C2 hC2 pre x z ⟨-, rfl⟩ hlen
   have hx:=Z1D x.2
   have hml:=Z1c N
   obtain⟨s,b,hs1,hs2⟩:=hN.name x.val hx
   have hsn:(pre.map (·.val) ++ [x.val]).map nm=(pre.map (·.val)).map nm ++ [nm x.val]:=by rw [List.map_append]; rfl
   have hll:((pre.map (·.val)).map nm).length=pre.length:=by rw [List.length_map,List.length_map]
   generalize (pre.map (·.val)).map nm=acc at hsn hll ⊢
   rw [hs2] at hsn
   refine Z5I ?_
   (repeat'(first|refine Z5 20 ?_|refine Z1 20 ?_|refine st ?_|(apply B<;>intro hb<;>try cases hb)))<;>try refine At.mk ?_
   refine Z7 rfl rfl rfl ?_
   (refine go ?_;repeat' (apply B<;>intro hb<;>try cases hb))
   refine Z6 hs1 rfl rfl rfl ⟨hN.pure,trivial,trivial⟩ rfl ?_
   cases b
   · rw [if_neg (by decide)] at hsn
     (refine go ?_;repeat' (apply B<;>intro hb<;>try cases hb))
     refine Z6 (Z3s x.val (by omega)) rfl rfl rfl ⟨trivial,trivial⟩ rfl ?_
     (repeat'(first|refine Z5 32 ?_|refine Z1 32 ?_|refine st ?_|(apply B<;>intro hb<;>try cases hb)))<;>try refine At.mk ?_
     refine ZM (ZE (k:=1) (m := [strC (numS x.val)]) (fl:=true) (b:=⟨1,acc.map strC⟩) rfl rfl rfl (fun q hq=>by rw [List.mem_singleton] at hq; subst hq; rfl) rfl (by
      show ((acc.map strC).length+1)*16≤_
      rw [List.length_map];omega)) rfl rfl ?_
     (refine go ?_;repeat' (apply B<;>intro hb<;>try cases hb))
     exact⟨.inl rfl,pre.map (·.val) ++ [x.val],mv 1 2,⟨rfl,by rw [List.map_append]; rfl⟩,Z3V (by decide),ZH rfl,⟨⟨_,rfl,.pure _ trivial⟩,⟨_,rfl,.pure _ trivial⟩,⟨_,rfl,.pure _ htp⟩,⟨_,rfl,.ptr (ρ:=mv 1 2) 0 0 0 (by decide)⟩,⟨_,rfl,.pure _ ⟨⟨Zc _,trivial⟩,trivial⟩⟩,trivial⟩,⟨⟨by decide,_,rfl,RenB.single ⟨.own (ρ:=mv 1 2) 1 (by decide),trivial⟩ rfl⟩,⟨by decide,_,rfl,by rw [hsn,List.map_append]; exact .same ⟨1,acc.map strC ++ [numS x.val].map strC⟩ (by rw [← List.map_append]; exact Zr _)⟩,trivial⟩⟩
   · rw [if_pos rfl] at hsn
     (repeat'(first|refine Z5 32 ?_|refine Z1 32 ?_|refine st ?_|(apply B<;>intro hb<;>try cases hb)))<;>try refine At.mk ?_
     refine ZM (ZE (k:=1) (m := [strC s]) (fl:=true) (b:=⟨1,acc.map strC⟩) rfl rfl rfl (fun q hq=>by rw [List.mem_singleton] at hq; subst hq; rfl) rfl (by
      show ((acc.map strC).length+1)*16≤_
      rw [List.length_map];omega)) rfl rfl ?_
     (refine go ?_;repeat' (apply B<;>intro hb<;>try cases hb))
     exact⟨.inl rfl,pre.map (·.val) ++ [x.val],mv 1 2,⟨rfl,by rw [List.map_append]; rfl⟩,Z3V (by decide),ZH rfl,⟨⟨_,rfl,.pure _ trivial⟩,⟨_,rfl,.pure _ trivial⟩,⟨_,rfl,.pure _ htp⟩,⟨_,rfl,.ptr (ρ:=mv 1 2) 0 0 0 (by decide)⟩,⟨_,rfl,.pure _ ⟨⟨Zc _,trivial⟩,trivial⟩⟩,trivial⟩,⟨⟨by decide,_,rfl,RenB.single ⟨.own (ρ:=mv 1 2) 1 (by decide),trivial⟩ rfl⟩,⟨by decide,_,rfl,by rw [hsn,List.map_append]; exact .same ⟨1,acc.map strC ++ [s].map strC⟩ (by rw [← List.map_append]; exact Zr _)⟩,trivial⟩⟩
 · rintro xs z hxs ⟨-, rfl⟩
   rw [hxs]
   have hml:=Z1c N
   have hsz:∀ y∈(mem N).map nm,y.data.toList.length≤100:=fun y hy=>by
    obtain⟨r,hr,rfl⟩:=List.mem_map.1 hy
    exact hN.len r (Z1D hr)
   have hlen:((mem N).map nm).length≤64:=by rw [List.length_map]; exact hml
   have hjl:=Z6U hsz hlen ⟨#[32,97,110,100,32]⟩ (by decide)
   unfold partB
   generalize (mem N).map nm=ns at hsz hlen hjl ⊢
   (repeat'(first|refine Z5 35 ?_|refine Z1 35 ?_|refine st ?_|(apply B<;>intro hb<;>try cases hb)))<;>try refine At.mk ?_
   refine Zf (Z1A (ob:=0) (id:=1) (i0:=0) (j0:=0) rfl rfl (by decide) (Zr ns) (Nat.le_of_ble_eq_true rfl) (Nat.le_of_ble_eq_true rfl) rfl) ?_
   (repeat'(first|refine Z5 36 ?_|refine Z1 36 ?_|refine st ?_|(apply B<;>intro hb<;>try cases hb)))<;>try refine At.mk ?_
   refine Z6 (Z2N ns false ⟨#[32,97,110,100,32]⟩ (by omega) (by omega)) rfl rfl rfl ⟨Zr _,trivial,trivial⟩ rfl ?_
   have hJ:(joinS ns ⟨#[32,97,110,100,32]⟩).size≤1000000:=by
    rw [bsize]
    exact Nat.le_trans hjl (by decide)
   generalize joinS ns ⟨#[32,97,110,100,32]⟩=J at hJ ⊢
   refine Z7 (Zc8 rfl rfl (by omega) hJ) rfl rfl ?_
   (repeat'(first|refine Z5 39 ?_|refine Z1 39 ?_|refine st ?_|(apply B<;>intro hb<;>try cases hb)))<;>try refine At.mk ?_
   refine Zf (Z10 (k:=33) rfl 1 (by decide)) ?_
   (refine go ?_;repeat' (apply B<;>intro hb<;>try cases hb))
   exact⟨_,_,rfl,.inl rfl,_,rfl,rfl⟩
 · rintro ex pre z - ⟨rfl,_⟩ (h|⟨id,h⟩)<;>cases h
set_option maxHeartbeats 8000000 in
theorem Zdt {tp:PV} {nm:Nat→ByteArray} (hN:NamesW tp nm) (l:List ByteArray) (hl:l.length≤1000) (word:ByteArray) (hw:word.size≤100) (N:Nat) (h64:N<18446744073709551616) (hne:N≠0):MSpec Tryz.prog 99 ⟨1,l.map strC⟩ [.val (.string word),setN N,tp] .own (fun b'=>b'=⟨1,(l ++ [partB word N nm]).map strC⟩):=by
 have htp:pureL [tp]:=⟨hN.pure,trivial⟩
 have hfl:=hN.one
 have hce:=hN.cell
 refine Zb6 ok99 (Nat.le_of_ble_eq_true rfl) fun C hC=>?_
 refine Zj ?_
 refine Z9 ?_
 refine Z4 rfl rfl rfl ?_
 refine Z4 (show fEval (.box (.tmp 3)) _ _ _=some (.cp [tp],_) by (show (match some tp with|some p=>if p.flat&&decide (0<p.cells.length) then some (PV.cp p.cells,_) else none|none=>none)=_; simp only [hfl,hce]; rfl)) rfl rfl ?_
 (refine go ?_;repeat' (apply B<;>intro hb<;>try cases hb))
 refine Z6 (Z2b N h64) rfl rfl rfl ⟨Z0 N,trivial⟩ rfl ?_
 rw [decide_eq_false hne]
 (repeat'(first|refine Z5 17 ?_|refine Z1 17 ?_|refine st ?_|(apply B<;>intro hb<;>try cases hb)))<;>try refine At.mk ?_
 refine Zf (Z1s (id:=1) (i0:=0) (j0:=0) rfl (by decide) (by decide) rfl 1 (by decide) (by decide)) ?_
 refine Z6 (Z2c N) rfl rfl rfl ⟨Z0 _,trivial⟩ rfl ?_
 (refine go ?_;repeat' (apply B<;>intro hb<;>try cases hb))
 refine Z3F (X:=List Nat) hC (caps := [.cp [.vec (words (digs N)) false]]) [(0,.own 0),(1,.val (.string word)),(7,.cp [tp]),(9,.ptr 1 0 0),(17,.fn 70 [.cp [.vec (words (digs N)) false]])]
  (fun z => [(0,⟨1,l.map strC⟩),(1,⟨1,[[.own 2]]⟩),(2,⟨1,((z.map nm).map strC)⟩)]) rfl ⟨⟨Zc _,trivial⟩,trivial⟩ (Z2V N h64) (fun _=>rfl)
  (fun ex pre z=>ex=.normal∧z=pre.map (·.val)) 3 (by decide) [] ⟨rfl,rfl⟩
  (Z4s (EnvQ.mem (ρ := fun i => i) (m := 3) (L := [(0, .own 0), (1, .val (.string word)), (7, .cp [tp]), (9, .ptr 1 0 0), (17, .fn 70 [.cp [.vec (words (digs N)) false]])]) ⟨⟨_, rfl, .own (ρ := fun i => i) 0 (by decide)⟩, ⟨_, rfl, .pure _ trivial⟩, ⟨_, rfl, .pure _ htp⟩, ⟨_, rfl, .ptr (ρ := fun i => i) 1 0 0 (by decide)⟩, ⟨_, rfl, .pure _ ⟨⟨Zc _, trivial⟩, trivial⟩⟩, trivial⟩)
    (HeapQ.mem (ρ:=fun i=>i) (m:=3) (L := [(0,⟨1,l.map strC⟩),(1,⟨1,[[.own 2]]⟩),(2,⟨1,((([]:List Nat).map nm).map strC)⟩)]) ⟨⟨by decide,_,rfl,.same _ (Zr l)⟩,⟨by decide,_,rfl,RenB.single ⟨.own (ρ:=fun i=>i) 2 (by decide),trivial⟩ rfl⟩,⟨by decide,_,rfl,.same _ trivial⟩,trivial⟩) hC (by decide))
  (fun z q hq=>by simp at hq; rcases hq with rfl|rfl|rfl<;>exact Nat.zero_lt_succ _) _ (fun x=>rfl) ?_ ?_ ?_
 · rintro C2 hC2 pre x z ⟨-, rfl⟩ hlen
   have hx:=Z1D x.2
   have hml:=Z1c N
   obtain⟨s,b,hs1,hs2⟩:=hN.name x.val hx
   have hsn:(pre.map (·.val) ++ [x.val]).map nm=(pre.map (·.val)).map nm ++ [nm x.val]:=by rw [List.map_append]; rfl
   have hll:((pre.map (·.val)).map nm).length=pre.length:=by rw [List.length_map,List.length_map]
   generalize (pre.map (·.val)).map nm=acc at hsn hll ⊢
   rw [hs2] at hsn
   refine Z5I ?_
   (repeat'(first|refine Z5 20 ?_|refine Z1 20 ?_|refine st ?_|(apply B<;>intro hb<;>try cases hb)))<;>try refine At.mk ?_
   refine Z7 rfl rfl rfl ?_
   (refine go ?_;repeat' (apply B<;>intro hb<;>try cases hb))
   refine Z6 hs1 rfl rfl rfl ⟨hN.pure,trivial,trivial⟩ rfl ?_
   cases b
   · rw [if_neg (by decide)] at hsn
     (refine go ?_;repeat' (apply B<;>intro hb<;>try cases hb))
     refine Z6 (Z3s x.val (by omega)) rfl rfl rfl ⟨trivial,trivial⟩ rfl ?_
     (repeat'(first|refine Z5 32 ?_|refine Z1 32 ?_|refine st ?_|(apply B<;>intro hb<;>try cases hb)))<;>try refine At.mk ?_
     refine ZM (ZE (k:=2) (m := [strC (numS x.val)]) (fl:=true) (b:=⟨1,acc.map strC⟩) rfl rfl rfl (fun q hq=>by rw [List.mem_singleton] at hq; subst hq; rfl) rfl (by
      show ((acc.map strC).length+1)*16≤_
      rw [List.length_map];omega)) rfl rfl ?_
     (refine go ?_;repeat' (apply B<;>intro hb<;>try cases hb))
     exact⟨.inl rfl,pre.map (·.val) ++ [x.val],mv 2 3,⟨rfl,by rw [List.map_append]; rfl⟩,Z3V (by decide),ZH rfl,⟨⟨_,rfl,.own (ρ:=mv 2 3) 0 (by decide)⟩,⟨_,rfl,.pure _ trivial⟩,⟨_,rfl,.pure _ htp⟩,⟨_,rfl,.ptr (ρ:=mv 2 3) 1 0 0 (by decide)⟩,⟨_,rfl,.pure _ ⟨⟨Zc _,trivial⟩,trivial⟩⟩,trivial⟩,⟨⟨by decide,_,rfl,.same _ (Zr l)⟩,⟨by decide,_,rfl,RenB.single ⟨.own (ρ:=mv 2 3) 2 (by decide),trivial⟩ rfl⟩,⟨by decide,_,rfl,by rw [hsn,List.map_append]; exact .same ⟨1,acc.map strC ++ [numS x.val].map strC⟩ (by rw [← List.map_append]; exact Zr _)⟩,trivial⟩⟩
   · rw [if_pos rfl] at hsn
     (repeat'(first|refine Z5 32 ?_|refine Z1 32 ?_|refine st ?_|(apply B<;>intro hb<;>try cases hb)))<;>try refine At.mk ?_
     refine ZM (ZE (k:=2) (m := [strC s]) (fl:=true) (b:=⟨1,acc.map strC⟩) rfl rfl rfl (fun q hq=>by rw [List.mem_singleton] at hq; subst hq; rfl) rfl (by
      show ((acc.map strC).length+1)*16≤_
      rw [List.length_map];omega)) rfl rfl ?_
     (refine go ?_;repeat' (apply B<;>intro hb<;>try cases hb))
     exact⟨.inl rfl,pre.map (·.val) ++ [x.val],mv 2 3,⟨rfl,by rw [List.map_append]; rfl⟩,Z3V (by decide),ZH rfl,⟨⟨_,rfl,.own (ρ:=mv 2 3) 0 (by decide)⟩,⟨_,rfl,.pure _ trivial⟩,⟨_,rfl,.pure _ htp⟩,⟨_,rfl,.ptr (ρ:=mv 2 3) 1 0 0 (by decide)⟩,⟨_,rfl,.pure _ ⟨⟨Zc _,trivial⟩,trivial⟩⟩,trivial⟩,⟨⟨by decide,_,rfl,.same _ (Zr l)⟩,⟨by decide,_,rfl,RenB.single ⟨.own (ρ:=mv 2 3) 2 (by decide),trivial⟩ rfl⟩,⟨by decide,_,rfl,by rw [hsn,List.map_append]; exact .same ⟨1,acc.map strC ++ [s].map strC⟩ (by rw [← List.map_append]; exact Zr _)⟩,trivial⟩⟩
 · rintro xs z hxs ⟨-, rfl⟩
   rw [hxs]
   have hml:=Z1c N
   have hsz:∀ y∈(mem N).map nm,y.data.toList.length≤100:=fun y hy=>by
    obtain⟨r,hr,rfl⟩:=List.mem_map.1 hy
    exact hN.len r (Z1D hr)
   have hlen:((mem N).map nm).length≤64:=by rw [List.length_map]; exact hml
   have hjl:=Z6U hsz hlen ⟨#[32,97,110,100,32]⟩ (by decide)
   unfold partB
   generalize (mem N).map nm=ns at hsz hlen hjl ⊢
   (repeat'(first|refine Z5 35 ?_|refine Z1 35 ?_|refine st ?_|(apply B<;>intro hb<;>try cases hb)))<;>try refine At.mk ?_
   refine Zf (Z1A (ob:=1) (id:=2) (i0:=0) (j0:=0) rfl rfl (by decide) (Zr ns) (Nat.le_of_ble_eq_true rfl) (Nat.le_of_ble_eq_true rfl) rfl) ?_
   (repeat'(first|refine Z5 36 ?_|refine Z1 36 ?_|refine st ?_|(apply B<;>intro hb<;>try cases hb)))<;>try refine At.mk ?_
   refine Z6 (Z2N ns false ⟨#[32,97,110,100,32]⟩ (by omega) (by omega)) rfl rfl rfl ⟨Zr _,trivial,trivial⟩ rfl ?_
   have hJ:(joinS ns ⟨#[32,97,110,100,32]⟩).size≤1000000:=by
    rw [bsize]
    exact Nat.le_trans hjl (by decide)
   generalize joinS ns ⟨#[32,97,110,100,32]⟩=J at hJ ⊢
   refine Z7 (Zc8 rfl rfl (by omega) hJ) rfl rfl ?_
   (repeat'(first|refine Z5 39 ?_|refine Z1 39 ?_|refine st ?_|(apply B<;>intro hb<;>try cases hb)))<;>try refine At.mk ?_
   refine ZM (ZE (k:=0) (m := [strC (word++J)]) (fl:=true) (b:=⟨1,l.map strC⟩) rfl rfl rfl (fun q hq=>by rw [List.mem_singleton] at hq; subst hq; rfl) rfl (by
    show ((l.map strC).length+1)*16≤_
    rw [List.length_map];omega)) rfl rfl ?_
   (refine go ?_;repeat' (apply B<;>intro hb<;>try cases hb))
   exact⟨_,_,rfl,.inl rfl,_,⟨1,(l ++ [word++J]).map strC⟩,rfl,by rw [List.map_append]; rfl,Zr _,rfl⟩
 · rintro ex pre z - ⟨rfl,_⟩ (h|⟨id,h⟩)<;>cases h
theorem Zh0 {r:Nat} (h:r<64):(numS r).data.toList.length≤100:=by have:=Z6T (k:=r) (by omega); omega
theorem namesNil:NamesW (.val (.pointer none)) numS where
 one:=rfl
 cell:=rfl
 pure:=trivial
 len:=fun r h=>Zh0 h
 name:=fun r h=>by
  refine⟨⟨#[]⟩,false,?_,rfl⟩
  have hlen:Spec Tryz.prog 165 [.val (.pointer none)] (· = .val (.int .i64 0)):=by
   refine Z3 ok165 (Nat.le_of_ble_eq_true rfl) fun C hC=>?_
   (refine go ?_;repeat' (apply B<;>intro hb<;>try cases hb))
   exact Z2 rfl trivial rfl
  refine Z3 ok139 (Nat.le_of_ble_eq_true rfl) fun C hC=>?_
  (repeat'(first|refine Z5 7 ?_|refine Z1 7 ?_|refine st ?_|(apply B<;>intro hb<;>try cases hb)))<;>try refine At.mk ?_
  refine Zg rfl rfl rfl (fun hb=>?_) (fun hb=>?_)
  · (refine go ?_;repeat' (apply B<;>intro hb<;>try cases hb))
    exact Z2 rfl ⟨trivial,trivial,trivial⟩ rfl
  · have h1 : ¬ (r : Int) < 1 := of_decide_eq_false hb
    clear hb
    (refine go ?_;repeat' (apply B<;>intro hb<;>try cases hb))
    refine Z6 hlen rfl rfl rfl ⟨trivial,trivial⟩ rfl ?_
    refine Zs rfl ?_
    refine Z7 (ZG (v:=true) rfl (decide_eq_true (by omega))) rfl rfl ?_
    (refine go ?_;repeat' (apply B<;>intro hb<;>try cases hb))
    exact Z2 rfl ⟨trivial,trivial,trivial⟩ rfl
section
variable {tp:PV} {nm:Nat→ByteArray} (hN:NamesW tp nm)
include hN
theorem Z7I (word:ByteArray):Spec Tryz.prog 99 [.vec [] true,.val (.string word),setN 0,tp] (· = .vec [] true):=by
 have hfl:=hN.one
 have hce:=hN.cell
 refine Z3 ok99 (Nat.le_of_ble_eq_true rfl) fun C hC=>?_
 refine Zj ?_
 refine Z9 ?_
 refine Z4 rfl rfl rfl ?_
 refine Z4 (show fEval (.box (.tmp 3)) _ _ _=some (.cp [tp],_) by (show (match some tp with|some p=>if p.flat&&decide (0<p.cells.length) then some (PV.cp p.cells,_) else none|none=>none)=_; simp only [hfl,hce]; rfl)) rfl rfl ?_
 (refine go ?_;repeat' (apply B<;>intro hb<;>try cases hb))
 refine Z6 (Z2b 0 (by decide)) rfl rfl rfl ⟨Z0 0,trivial⟩ rfl ?_
 (refine go ?_;repeat' (apply B<;>intro hb<;>try cases hb))
 exact Z2 rfl trivial rfl
theorem Zb7 {n k:Nat} {h:Heap} (hh:h n=none) (word:ByteArray):ISpec Tryz.prog 99 n [.own k,.val (.string word),setN 0,tp] h (fun n' r h'=>n'=n∧r=.own k∧h'=h):=by
 have hfl:=hN.one
 have hce:=hN.cell
 refine Z1H ok99 (Nat.le_of_ble_eq_true rfl) fun C hC=>?_
 refine Zj ?_
 refine Z9 ?_
 refine Z4 rfl rfl hh ?_
 refine Z4 (show fEval (.box (.tmp 3)) _ _ _=some (.cp [tp],_) by (show (match some tp with|some p=>if p.flat&&decide (0<p.cells.length) then some (PV.cp p.cells,_) else none|none=>none)=_; simp only [hfl,hce]; rfl)) rfl hh ?_
 refine Z7 rfl rfl hh ?_
 refine Z18 ?_
 refine Zj ?_
 refine Zj ?_
 refine Z9 ?_
 refine Z7 rfl rfl hh ?_
 refine Z6 (Z2b 0 (by decide)) rfl rfl rfl ⟨Z0 0,trivial⟩ hh ?_
 refine Z18 ?_
 refine Z7X rfl ?_
 refine Zj ?_
 refine Z9 ?_
 refine Z7 rfl rfl hh ?_
 refine Z7 rfl rfl hh ?_
 refine Z18 ?_
 refine Ze5 ?_
 exact⟨_,_,rfl,.inl rfl,rfl,rfl,rfl⟩
def hasW:ByteArray:=⟨#[104,97,115,32]⟩
def lacksW:ByteArray:=⟨#[108,97,99,107,115,32]⟩
def partsW (c:Cu) (nm:Nat→ByteArray):List ByteArray:=(if c.1=0 then [] else [partB hasW c.1 nm])++(if c.2=0 then [] else [partB lacksW c.2 nm])
def sentW (c:Cu) (nm:Nat→ByteArray):ByteArray:=if partsW c nm = [] then ⟨#[97,110,121,32,114,111,108,101,115]⟩ else joinS (partsW c nm) ⟨#[44,32]⟩
theorem Z9I {word:ByteArray} (hw:word.data.toList.length≤100) (N:Nat):(partB word N nm).data.toList.length≤100100:=by
 have hml:=Z1c N
 have hsz:∀ y∈(mem N).map nm,y.data.toList.length≤100:=fun y hy=>by
  obtain⟨r,hr,rfl⟩:=List.mem_map.1 hy
  exact hN.len r (Z1D hr)
 have hjl:=Z6U hsz (by rw [List.length_map]; exact hml) ⟨#[32,97,110,100,32]⟩ (by decide)
 unfold partB
 rw [ByteArray.data_append,Array.toList_append,List.length_append]
 have:(joinS ((mem N).map nm) ⟨#[32,97,110,100,32]⟩).data.toList.length≤100000:=hjl
 omega
omit hN in
theorem Z8H {l:List ByteArray} (h:∀ x∈l,x.data.toList.length≤100100) (hl:l.length≤2):(Go.Lib.join (l.map (·.data.toList)) (⟨#[44,32]⟩:ByteArray).data.toList).length≤140737488355328:=by
 cases l with
 | nil=>simp [Go.Lib.join_nil]
 | cons x l =>
   rw [List.map_cons,Go.Lib.join_length]
   have:=Zb5 (k:=100100) (l:=(x :: l).map (·.data.toList)) fun y hy=>by
    obtain⟨z,hz,rfl⟩:=List.mem_map.1 hy
    exact h z hz
   rw [List.map_cons] at this
   simp only [List.length_cons,List.length_map] at this hl ⊢
   simp only [List.length_nil]
   omega
set_option maxHeartbeats 4000000 in
theorem Zdu (c:Cu) (hc:Ok64 c):Spec Tryz.prog 51 [cuP c,tp] (· = .val (.string (sentW c nm))):=by
 obtain⟨y,z⟩:=c
 obtain⟨hy,hz⟩:y<18446744073709551616∧z<18446744073709551616:=hc
 have htp:=hN.pure
 have b1:=Z9I hN (word:=hasW) (by decide) y
 have b2:=Z9I hN (word:=lacksW) (by decide) z
 refine Z3 ok51 (Nat.le_of_ble_eq_true rfl) fun C hC=>?_
 refine Zj ?_
 refine Z9 ?_
 refine Z4 rfl rfl rfl ?_
 unfold sentW partsW
 dsimp only
 by_cases h1:y=0
 · subst h1
   rw [if_pos rfl,List.nil_append]
   (repeat'(first|refine Z5 8 ?_|refine Z1 8 ?_|refine st ?_|(apply B<;>intro hb<;>try cases hb)))<;>try refine At.mk ?_
   refine Z7 rfl rfl rfl ?_
   refine Z6 (Z7I hN hasW) rfl rfl rfl ⟨trivial,trivial,Z0 0,htp,trivial⟩ rfl ?_
   by_cases h2:z=0
   · subst h2
     (repeat'(first|refine Z5 13 ?_|refine Z1 13 ?_|refine st ?_|(apply B<;>intro hb<;>try cases hb)))<;>try refine At.mk ?_
     refine Z7 rfl rfl rfl ?_
     refine Z6 (Z7I hN lacksW) rfl rfl rfl ⟨trivial,trivial,Z0 0,htp,trivial⟩ rfl ?_
     (refine go ?_;repeat' (apply B<;>intro hb<;>try cases hb))
     exact Z2 rfl trivial rfl
   · rw [if_neg h2]
     (repeat'(first|refine Z5 13 ?_|refine Z1 13 ?_|refine st ?_|(apply B<;>intro hb<;>try cases hb)))<;>try refine At.mk ?_
     refine Z7 rfl rfl rfl ?_
     refine Z8i (Z7H hN lacksW (by decide) z hz h2) Z5V (Zr _) rfl rfl ⟨trivial,trivial,Z0 z,htp,trivial⟩ ?_
     (repeat'(first|refine Z5 18 ?_|refine Z1 18 ?_|refine st ?_|(apply B<;>intro hb<;>try cases hb)))<;>try refine At.mk ?_
     refine Zf (Zn (k:=5) (id:=0) (b:=⟨1,[partB lacksW z nm].map strC⟩) rfl rfl (Zr _)) ?_
     (repeat'(first|refine Z5 19 ?_|refine Z1 19 ?_|refine st ?_|(apply B<;>intro hb<;>try cases hb)))<;>try refine At.mk ?_
     refine Z6 (Z2N [partB lacksW z nm] false ⟨#[44,32]⟩ (by simp) (Z8H (fun x hx=>by rw [List.mem_singleton] at hx; subst hx; exact b2) (by simp))) rfl rfl rfl ⟨Zr _,trivial,trivial⟩ rfl ?_
     (refine go ?_;repeat' (apply B<;>intro hb<;>try cases hb))
     exact Z2 rfl trivial (by rw [if_neg (by simp)])
 · rw [if_neg h1]
   (repeat'(first|refine Z5 8 ?_|refine Z1 8 ?_|refine st ?_|(apply B<;>intro hb<;>try cases hb)))<;>try refine At.mk ?_
   refine Z7 rfl rfl rfl ?_
   refine Z8i (Z7H hN hasW (by decide) y hy h1) Z5V (Zr _) rfl rfl ⟨trivial,trivial,Z0 y,htp,trivial⟩ ?_
   by_cases h2:z=0
   · subst h2
     rw [if_pos rfl,List.append_nil]
     (repeat'(first|refine Z5 13 ?_|refine Z1 13 ?_|refine st ?_|(apply B<;>intro hb<;>try cases hb)))<;>try refine At.mk ?_
     refine Z7 rfl rfl rfl ?_
     refine ZT rfl rfl (Zb7 hN (k:=0) rfl lacksW) ?_
     rintro n' x h' ⟨rfl,rfl,rfl⟩
     (repeat'(first|refine Z5 18 ?_|refine Z1 18 ?_|refine st ?_|(apply B<;>intro hb<;>try cases hb)))<;>try refine At.mk ?_
     refine Zf (Zn (k:=5) (id:=0) (b:=⟨1,[partB hasW y nm].map strC⟩) rfl rfl (Zr _)) ?_
     (repeat'(first|refine Z5 19 ?_|refine Z1 19 ?_|refine st ?_|(apply B<;>intro hb<;>try cases hb)))<;>try refine At.mk ?_
     refine Z6 (Z2N [partB hasW y nm] false ⟨#[44,32]⟩ (by simp) (Z8H (fun x hx=>by rw [List.mem_singleton] at hx; subst hx; exact b1) (by simp))) rfl rfl rfl ⟨Zr _,trivial,trivial⟩ rfl ?_
     (refine go ?_;repeat' (apply B<;>intro hb<;>try cases hb))
     exact Z2 rfl trivial (by rw [if_neg (by simp)])
   · rw [if_neg h2]
     (repeat'(first|refine Z5 13 ?_|refine Z1 13 ?_|refine st ?_|(apply B<;>intro hb<;>try cases hb)))<;>try refine At.mk ?_
     refine Z7 rfl rfl rfl ?_
     refine ZhR (k:=0) (Zdt hN [partB hasW y nm] (by simp) lacksW (by decide) z hz h2) Z5V rfl rfl rfl rfl (Zr _) ⟨trivial,Z0 z,htp,trivial⟩ ?_
     rintro b' hb' rfl
     (repeat'(first|refine Z5 18 ?_|refine Z1 18 ?_|refine st ?_|(apply B<;>intro hb<;>try cases hb)))<;>try refine At.mk ?_
     refine Zf (Zn (k:=5) (id:=1) (b:=⟨1,[partB hasW y nm,partB lacksW z nm].map strC⟩) rfl rfl (Zr _)) ?_
     (repeat'(first|refine Z5 19 ?_|refine Z1 19 ?_|refine st ?_|(apply B<;>intro hb<;>try cases hb)))<;>try refine At.mk ?_
     refine Z6 (Z2N [partB hasW y nm,partB lacksW z nm] false ⟨#[44,32]⟩ (by simp) (Z8H (fun x hx=>by
      rcases List.mem_cons.1 hx with rfl|hx
      · exact b1
      · rw [List.mem_singleton] at hx; subst hx; exact b2) (by simp))) rfl rfl rfl ⟨Zr _,trivial,trivial⟩ rfl ?_
     (refine go ?_;repeat' (apply B<;>intro hb<;>try cases hb))
     exact Z2 rfl trivial (by rw [if_neg (by simp)]; rfl)
end
def fmF:Fm:=.mk 11 0 [] [.mk 5 0 [1,2,3] [],.mk 1 1 [] []]
def fmG:Fm:=.mk 10 0 [] [.mk 4 0 [1] [],.mk 4 0 [2] []]
theorem ZfA:checkM fmF=0:=by decide +kernel
theorem ZfB:checkM fmG=0:=by decide +kernel
theorem Zh1:vioL fmF = [(6,0),(10,0),(12,0)]:=by decide +kernel
theorem Zh2:vioL fmG = [(2,4)]:=by decide +kernel
theorem Zig:firstC (vioL fmF) 14=some (6,0):=by rw [Zh1]; decide +kernel
theorem Zih:firstC (vioL fmG) 10=some (2,4):=by rw [Zh2]; decide +kernel
theorem Zc9 {l:List Pr} {M:Nat} (hl:Small l) (hu:∀ a r,Up l a r↔a=4∧M.testBit r=true) {s:Nat} (hs:s<18446744073709551616) (h0:s.testBit 0=false):clo l s=s ||| (if s.testBit 4 then M else 0):=Nat.eq_of_testBit_eq fun r=>by
 rw [Bool.eq_iff_iff,ZhP hl hs,Nat.testBit_or,Bool.or_eq_true]
 constructor
 · rintro ⟨a, h1, h2, h3⟩
   rcases (Z6G hl r a).1 h3 with h4|rfl
   · obtain ⟨rfl, h5⟩ := (hu a r).1 h4
     rw [if_pos h1]; exact .inr h5
   · exact .inl h1
 · rintro (h1 | h1)
   · exact⟨r,h1,Nat.pos_of_ne_zero (n:=r) fun e=>by (rw [e,h0] at h1; cases h1),(Z6G hl r r).2 (.inr rfl)⟩
   · by_cases h4 : s.testBit 4 = true
     · rw [if_pos h4] at h1
       exact⟨4,h4,by decide,(Z6G hl r 4).2 (.inl ((hu 4 r).2 ⟨rfl,h1⟩))⟩
     · rw [if_neg h4,Nat.zero_testBit] at h1; cases h1
theorem ZiA (a r:Nat):Up [(4,1),(4,2)] a r↔a=4∧(6:Nat).testBit r=true:=by
 constructor
 · intro h
   induction h with
   | one h =>
     simp only [List.mem_cons,Prod.mk.injEq,List.not_mem_nil,or_false] at h
     rcases h with⟨rfl,rfl⟩|⟨rfl,rfl⟩<;>exact⟨rfl,by decide⟩
   | more _ k ih =>
     simp only [List.mem_cons,Prod.mk.injEq,List.not_mem_nil,or_false] at k
     rcases k with⟨rfl,rfl⟩|⟨rfl,rfl⟩<;>exact absurd ih.2 (by decide)
 · rintro ⟨rfl, h⟩
   have hr:r<3:=Nat.lt_of_not_le fun h3=>by
    rw [Nat.testBit_lt_two_pow (Nat.lt_of_lt_of_le (by decide:6<2 ^ 3) (Nat.pow_le_pow_right (by decide) h3))] at h; cases h
   match r,hr,h with
   | 0,_,h=>cases h
   | 1,_,_=>exact .one (by simp)
   | 2,_,_=>exact .one (by simp)
theorem ZiB (a r:Nat):Up [(4,2)] a r↔a=4∧(4:Nat).testBit r=true:=by
 constructor
 · intro h
   induction h with
   | one h =>
     simp only [List.mem_cons,Prod.mk.injEq,List.not_mem_nil,or_false] at h
     obtain⟨rfl,rfl⟩:=h
     exact⟨rfl,by decide⟩
   | more _ k ih =>
     simp only [List.mem_cons,Prod.mk.injEq,List.not_mem_nil,or_false] at k
     obtain⟨rfl,rfl⟩:=k
     exact absurd ih.2 (by decide)
 · rintro ⟨rfl, h⟩
   have hr:r<3:=Nat.lt_of_not_le fun h3=>by
    rw [Nat.testBit_lt_two_pow (Nat.lt_of_lt_of_le (by decide:4<2 ^ 3) (Nat.pow_le_pow_right (by decide) h3))] at h; cases h
   match r,hr,h with
   | 0,_,h=>cases h
   | 1,_,h=>cases h
   | 2,_,_=>exact .one (by simp)
theorem ZfC:Small [(4,1),(4,2)]:=fun p hp=>by
 simp only [List.mem_cons,List.not_mem_nil,or_false] at hp
 rcases hp with rfl|rfl<;>decide
theorem ZhS:Small [(4,2)]:=fun p hp=>by
 simp only [List.mem_cons,List.not_mem_nil,or_false] at hp
 subst hp; decide
theorem Zhh {s:Nat} (h:s ||| 24=24):s=0 ∨ s=8 ∨ s=16 ∨ s=24:=by
 have hlt:s<25:=Nat.lt_succ_of_le (by rw [← h]; exact Nat.left_le_or)
 have key:∀ s,s<25→s ||| 24=24→s=0 ∨ s=8 ∨ s=16 ∨ s=24:=by decide
 exact key s hlt h
theorem Zca {s:Nat} (h:s ||| 20=20):s=0 ∨ s=4 ∨ s=16 ∨ s=20:=by
 have hlt:s<21:=Nat.lt_succ_of_le (by rw [← h]; exact Nat.left_le_or)
 have key:∀ s,s<21→s ||| 20=20→s=0 ∨ s=4 ∨ s=16 ∨ s=20:=by decide
 exact key s hlt h
theorem Ziq {s:Nat} (h:s ||| 24=24):gdR fmF [(4,1),(4,2)] 24 s=decide (s=16 ∨ s=24):=by
 unfold gdR
 rcases Zhh h with rfl|rfl|rfl|rfl
 all_goals
  rw [Zc9 ZfC ZiA (by decide) (by decide)]
  decide +kernel
theorem Zir {s:Nat} (h:s ||| 20=20):gdA fmG [(4,2)] 10 s=decide (s≠0):=by
 unfold gdA
 rcases Zca h with rfl|rfl|rfl|rfl
 all_goals
  rw [Zc9 ZhS ZiB (by decide) (by decide)]
  decide +kernel
theorem Zii:Mins (fun s=>s ||| 24=24) (gdR fmF [(4,1),(4,2)] 24) [16]:=⟨by simp,fun s=>by
 rw [List.mem_singleton]
 constructor
 · rintro rfl
   refine⟨by decide,by rw [Ziq (by decide)]; rfl,fun s' h1 h2=>?_⟩
   rw [Ziq h1] at h2
   rcases of_decide_eq_true h2 with rfl|rfl<;>decide +kernel
 · rintro ⟨h1, h2, h3⟩
   rw [Ziq h1] at h2
   rcases of_decide_eq_true h2 with rfl|rfl
   · rfl
   · have := h3 16 (by decide) (by rw [Ziq (by decide)]; rfl)
     exact absurd this (by decide +kernel)⟩
theorem Zij:Mins (fun s=>s ||| 20=20) (gdA fmG [(4,2)] 10) [4,16]:=⟨by simp,fun s=>by
 rw [List.mem_cons,List.mem_singleton]
 constructor
 · rintro (rfl | rfl)
   all_goals
    refine⟨by decide,by rw [Zir (by decide)]; rfl,fun s' h1 h2=>?_⟩
    rw [Zir h1] at h2
    rcases Zca h1 with rfl|rfl|rfl|rfl
    · cases h2
    all_goals decide +kernel
 · rintro ⟨h1, h2, h3⟩
   rw [Zir h1] at h2
   rcases Zca h1 with rfl|rfl|rfl|rfl
   · cases h2
   · exact .inl rfl
   · exact .inr rfl
   · have := h3 16 (by decide) (by rw [Zir (by decide)]; rfl)
     exact absurd this (by decide +kernel)⟩
theorem Zik:SortedK [16]:=List.pairwise_singleton _ _
theorem Zil:SortedK [4,16]:=by
 unfold SortedK
 rw [List.pairwise_cons]
 refine⟨fun a ha=>?_,List.pairwise_singleton _ _⟩
 rw [List.mem_singleton] at ha
 subst ha
 decide +kernel
theorem Zhi:textB 16=⟨#[123,52,125]⟩:=by
 unfold textB
 rw [show mem 16 = [4] by decide +kernel]
 show (⟨(([123]++((if 1 < [(123:UInt8)].length then [32] else [])++Go.Lib.decDigits 4)) ++ [125]).toArray⟩:ByteArray)=_
 rw [Go.Lib.decDigits_one (by decide)]; rfl
theorem Zim:textB 4=⟨#[123,50,125]⟩:=by
 unfold textB
 rw [show mem 4 = [2] by decide +kernel]
 show (⟨(([123]++((if 1 < [(123:UInt8)].length then [32] else [])++Go.Lib.decDigits 2)) ++ [125]).toArray⟩:ByteArray)=_
 rw [Go.Lib.decDigits_one (by decide)]; rfl
theorem Zin:numS 1=⟨#[49]⟩:=by unfold numS; rw [Go.Lib.decDigits_one (by decide)]; rfl
theorem Zio:numS 2=⟨#[50]⟩:=by unfold numS; rw [Go.Lib.decDigits_one (by decide)]; rfl
theorem ZhT:textS (6,0)=⟨#[49,32,50]⟩:=by
 have e1:mem ((6:Nat) ||| 0) = [1,2]:=by decide +kernel
 have h:litsS (6,0) [1,2] = [⟨#[49]⟩,⟨#[50]⟩]:=by
  unfold litsS litS
  simp only [List.flatMap_cons,List.flatMap_nil]
  rw [Zin,Zio]
  rfl
 unfold textS
 show (if litsS (6,0) (mem (6 ||| 0)) = [] then _ else joinS (litsS (6,0) (mem (6 ||| 0))) ⟨#[32]⟩)=_
 rw [e1,h,if_neg (by simp)]
 rfl
theorem ZhU:sentW (2,4) numS=⟨#[104,97,115,32,49,44,32,108,97,99,107,115,32,50]⟩:=by
 have e1:mem (2:Nat) = [1]:=by decide +kernel
 have e2:mem (4:Nat) = [2]:=by decide +kernel
 have h:partsW (2,4) numS = [⟨#[104,97,115,32,49]⟩,⟨#[108,97,99,107,115,32,50]⟩]:=by
  show (if (2:Nat)=0 then [] else [partB hasW 2 numS])++(if (4:Nat)=0 then [] else [partB lacksW 4 numS])=_
  rw [if_neg (by decide),if_neg (by decide)]
  unfold partB
  rw [e1,e2]
  simp only [List.map]
  rw [Zin,Zio]
  rfl
 unfold sentW
 rw [h,if_neg (by simp)]
 rfl
section
variable {P:Program} {e:Env} {h:Heap} {n:Nat}
theorem Zcb {k:Nat} {p q:PV} (hk:e k=some p) (hr:RenP (fun i=>i) (fun _=>False) p q):SubA n e h n (e.upd k q) h:=by
 rintro C a w ⟨F,φ,s⟩
 refine⟨F,φ,{ s with env:=fun j r hq=>?_ }⟩
 by_cases hj:j=k
 · subst hj
   rw [Env.upd_same] at hq
   cases hq
   exact⟨(s.env j p hk).1,hr.rep (fun i x hd _=>hd.elim) (s.env j p hk).2⟩
 · rw [Env.upd_ne _ _ hj] at hq
   exact s.env j r hq
end
theorem Z6V (l:List Int) (N:Nat) (h:maskTo (topOf l) l=N) (fl:Bool):Spec Tryz.prog 48 [.vec (nums l) fl] (· = setN N):=h▸Z7Y l fl
theorem Zh3:Made6 fmF:=⟨⟨by decide +kernel,by decide +kernel⟩,by decide,by decide,by decide,by decide +kernel⟩
theorem Zh4:Made6 fmG:=⟨⟨by decide +kernel,by decide +kernel⟩,by decide,by decide,by decide,by decide +kernel⟩
theorem Z7J (S:List Nat) (b:Nat) (hb:1≤b∧b<64) (hab:4≠b):Spec Tryz.prog 53 [hierP [] S,.val (.int .i64 4),.val (.int .i64 (b:Int))] fun r=>∃ S',r=.tup [hierP [(4,b)] S',.val (.int .i64 0)]:=by
 refine (Z6K [] S 4 b (by decide) hb hab (fun p hp=>by cases hp) List.nodup_nil (by simp) ⟨fun x=>if x=4 then 0 else 1,fun p hp=>by
  rw [List.nil_append,List.mem_singleton] at hp
  subst hp
  simp [Ne.symm hab]⟩ (by decide)).mono ?_
 rintro r ⟨l',S',h1,h2,rfl⟩
 obtain rfl:=List.perm_singleton.1 h1
 exact⟨S',rfl⟩
theorem Zb8 (S:List Nat):Spec Tryz.prog 53 [hierP [(4,1)] S,.val (.int .i64 4),.val (.int .i64 2)] fun r=>∃ S',r=.tup [hierP [(4,1),(4,2)] S',.val (.int .i64 0)]:=by
 refine (Z6K [(4,1)] S 4 2 (by decide) (by decide) (by decide) (fun p hp=>ZfC p (by rw [List.mem_singleton] at hp; subst hp; simp)) (by simp) (by simp) ⟨fun x=>if x=4 then 0 else 1,fun p hp=>by
  rw [List.singleton_append] at hp
  simp only [List.mem_cons,List.not_mem_nil,or_false] at hp
  rcases hp with rfl|rfl<;>simp⟩ (by decide)).mono ?_
 rintro r ⟨l',S',h1,h2,rfl⟩
 rw [List.singleton_append] at h1
 have hl:=h1.length_eq
 match l',h1,h2,hl with
 | [x, y], h1, h2, _ =>
   have hx:x∈[((4,1):Pr),(4,2)]:=h1.mem_iff.1 (by simp)
   have hy:y∈[((4,1):Pr),(4,2)]:=h1.mem_iff.1 (by simp)
   have hs:=(List.pairwise_cons.1 h2).1 y (by simp)
   simp only [List.mem_cons,List.not_mem_nil,or_false] at hx hy
   rcases hx with rfl|rfl<;>rcases hy with rfl|rfl
   · simp at hs
   · exact⟨S',rfl⟩
   · simp at hs
   · simp at hs
theorem Zh5 {r:PV} (hr:RepR fmF 24 (gdR fmF [(4,1),(4,2)] 24) r):∃ fl,r=.tup [.vec [stC 16] fl,.val (.int .i64 0)]:=by
 cases hr with
 | bad h=>exact absurd ZfA h
 | sm _ hs =>
   cases hs with
   | many h=>exact absurd h (by decide +kernel)
   | found _ out fl hm hso =>
     obtain rfl:=Z9A hm Zii (fun s h=>by rcases Zhh h with rfl|rfl|rfl|rfl<;>decide) hso Zik
     exact⟨fl,rfl⟩
theorem Zh6 {r:PV} (hr:RepR fmG (minusN 20 10) (gdA fmG [(4,2)] 10) r):∃ fl,r=.tup [.vec [stC 4,stC 16] fl,.val (.int .i64 0)]:=by
 have e:minusN 20 10=20:=by decide +kernel
 rw [e] at hr
 cases hr with
 | bad h=>exact absurd ZfB h
 | sm _ hs =>
   cases hs with
   | many h=>exact absurd h (by decide +kernel)
   | found _ out fl hm hso =>
     obtain rfl:=Z9A hm Zij (fun s h=>by rcases Zca h with rfl|rfl|rfl|rfl<;>decide) hso Zil
     exact⟨fl,rfl⟩
def boxF:List PV := [.val (.int .u8 11),.val (.int .i64 0),.vec [] true,.vec [[.val (.int .u8 5),.val (.int .i64 0),.vec (nums [1,2,3]) true,.vec [] true],[.val (.int .u8 1),.val (.int .i64 1),.vec [] true,.vec [] true]] true]
def boxG:List PV := [.val (.int .u8 10),.val (.int .i64 0),.vec [] true,.vec [[.val (.int .u8 4),.val (.int .i64 0),.vec (nums [1]) true,.vec [] true],[.val (.int .u8 4),.val (.int .i64 0),.vec (nums [2]) true,.vec [] true]] true]
theorem Zcc:(PV.cp boxF).low=.cp (fC .u8 fmF):=rfl
theorem Zcd:(PV.cp boxG).low=.cp (fC .u8 fmG):=rfl
theorem ZfD:pureL boxF:=⟨trivial,trivial,trivial,⟨⟨trivial,trivial,Za _,trivial,trivial⟩,⟨trivial,trivial,trivial,trivial,trivial⟩,trivial⟩,trivial⟩
theorem ZfE:pureL boxG:=⟨trivial,trivial,trivial,⟨⟨trivial,trivial,Za _,trivial,trivial⟩,⟨trivial,trivial,Za _,trivial,trivial⟩,trivial⟩,trivial⟩
theorem Zix:RenP (fun i=>i) (fun _=>False) (.cp boxF) (.cp (fC .u8 fmF)):=Zcc▸RenP.low (.cp boxF) (by rw [Zcc]; exact Zh _ _)
theorem Ziy:RenP (fun i=>i) (fun _=>False) (.cp boxG) (.cp (fC .u8 fmG)):=Zcd▸RenP.low (.cp boxG) (by rw [Zcd]; exact Zh _ _)
set_option maxRecDepth 100000 in
set_option maxHeartbeats 16000000 in
theorem Z3t:Spec Tryz.prog 12 [] (· = .val (.bool true)):=by
 have hpf:=Zh .u8 fmF
 have hpg:=Zh .u8 fmG
 refine Z3 ok12 (Nat.le_of_ble_eq_true rfl) fun C hC=>?_
 (repeat'(first|refine Z5 22 ?_|refine Z1 22 ?_|refine st ?_|(apply B<;>intro hb<;>try cases hb)))<;>try refine At.mk ?_
 refine Zf (Z11 (k:=1) (l:=boxF) rfl rfl ZfD) ?_
 refine Zf (Zcb (k:=1) rfl Zix) ?_
 (repeat'(first|refine Z5 29 ?_|refine Z1 29 ?_|refine st ?_|(apply B<;>intro hb<;>try cases hb)))<;>try refine At.mk ?_
 refine Zf (Z11 (k:=2) (l:=boxG) rfl rfl ZfE) ?_
 refine Zf (Zcb (k:=2) rfl Ziy) ?_
 refine Zv rfl rfl Z3r trivial rfl ?_
 rintro r ⟨S0,rfl⟩
 (repeat'(first|refine Z5 30 ?_|refine Z1 30 ?_|refine st ?_|(apply B<;>intro hb<;>try cases hb)))<;>try refine At.mk ?_
 refine Zv rfl rfl (Z7J S0 1 (by decide) (by decide)) ⟨Zm _ _,trivial,trivial,trivial⟩ rfl ?_
 rintro r ⟨S1,rfl⟩
 (repeat'(first|refine Z5 35 ?_|refine Z1 35 ?_|refine st ?_|(apply B<;>intro hb<;>try cases hb)))<;>try refine At.mk ?_
 refine Zv rfl rfl (Zb8 S1) ⟨Zm _ _,trivial,trivial,trivial⟩ rfl ?_
 rintro r ⟨S2,rfl⟩
 (repeat'(first|refine Z5 39 ?_|refine Z1 39 ?_|refine st ?_|(apply B<;>intro hb<;>try cases hb)))<;>try refine At.mk ?_
 refine Zv rfl rfl Z3r trivial rfl ?_
 rintro r ⟨S3,rfl⟩
 (repeat'(first|refine Z5 40 ?_|refine Z1 40 ?_|refine st ?_|(apply B<;>intro hb<;>try cases hb)))<;>try refine At.mk ?_
 refine Zv rfl rfl (Z7J S3 2 (by decide) (by decide)) ⟨Zm _ _,trivial,trivial,trivial⟩ rfl ?_
 rintro r ⟨S4,rfl⟩
 (repeat'(first|refine Z5 56 ?_|refine Z1 56 ?_|refine st ?_|(apply B<;>intro hb<;>try cases hb)))<;>try refine At.mk ?_
 refine Zq (Z6V [1,2,3] 14 (by decide +kernel) true) rfl rfl rfl ⟨Za _,trivial⟩ ?_
 (repeat'(first|refine Z5 57 ?_|refine Z1 57 ?_|refine st ?_|(apply B<;>intro hb<;>try cases hb)))<;>try refine At.mk ?_
 refine Zq (Z8F fmF (by decide) (by decide) 14 (by decide)) rfl rfl rfl ⟨hpf,Z0 _,trivial⟩ ?_
 rw [Zig]
 (repeat'(first|refine Z5 63 ?_|refine Z1 63 ?_|refine st ?_|(apply B<;>intro hb<;>try cases hb)))<;>try refine At.mk ?_
 refine Zq (Z6V [1,3] 10 (by decide +kernel) true) rfl rfl rfl ⟨Za _,trivial⟩ ?_
 (repeat'(first|refine Z5 64 ?_|refine Z1 64 ?_|refine st ?_|(apply B<;>intro hb<;>try cases hb)))<;>try refine At.mk ?_
 refine Zq (Z8F fmG (by decide) (by decide) 10 (by decide)) rfl rfl rfl ⟨hpg,Z0 _,trivial⟩ ?_
 rw [Zih]
 (repeat'(first|refine Z5 70 ?_|refine Z1 70 ?_|refine st ?_|(apply B<;>intro hb<;>try cases hb)))<;>try refine At.mk ?_
 refine Zq (Z6V [3,4] 24 (by decide +kernel) true) rfl rfl rfl ⟨Za _,trivial⟩ ?_
 (repeat'(first|refine Z5 72 ?_|refine Z1 72 ?_|refine st ?_|(apply B<;>intro hb<;>try cases hb)))<;>try refine At.mk ?_
 refine Z59 rfl rfl (.inl rfl) (Z32 Zh3.holdsW (by decide) (by decide) [(4,1),(4,2)] S2 24 (by decide) (by decide)) ⟨hpf,Z0 _,Zm _ _,trivial⟩ ?_
 intro r hr
 obtain⟨fa,rfl⟩:∃ fl,r=.tup [.vec [stC 16] fl,.val (.int .i64 0)]:=Zh5 hr
 (repeat'(first|refine Z5 78 ?_|refine Z1 78 ?_|refine st ?_|(apply B<;>intro hb<;>try cases hb)))<;>try refine At.mk ?_
 refine Zq (Z6V [1,3] 10 (by decide +kernel) true) rfl rfl rfl ⟨Za _,trivial⟩ ?_
 (repeat'(first|refine Z5 80 ?_|refine Z1 80 ?_|refine st ?_|(apply B<;>intro hb<;>try cases hb)))<;>try refine At.mk ?_
 refine Zq (Z6V [2,4] 20 (by decide +kernel) true) rfl rfl rfl ⟨Za _,trivial⟩ ?_
 (repeat'(first|refine Z5 82 ?_|refine Z1 82 ?_|refine st ?_|(apply B<;>intro hb<;>try cases hb)))<;>try refine At.mk ?_
 refine Z59 rfl rfl (.inl rfl) (Z6O Zh4.holdsW (by decide) (by decide) [(4,2)] S4 10 20 (by decide) (by decide) (by decide)) ⟨hpg,Z0 _,Z0 _,Zm _ _,trivial⟩ ?_
 intro r hr
 obtain⟨fb,rfl⟩:∃ fl,r=.tup [.vec [stC 4,stC 16] fl,.val (.int .i64 0)]:=Zh6 hr
 (repeat'(first|refine Z5 99 ?_|refine Z1 99 ?_|refine st ?_|(apply B<;>intro hb<;>try cases hb)))<;>try refine At.mk ?_
 refine Zs rfl ?_
 refine Z6 (Zds (6,0) ⟨by decide,by decide⟩) rfl rfl rfl ⟨Zt _,trivial⟩ rfl ?_
 rw [ZhT]
 (repeat'(first|refine Z5 104 ?_|refine Z1 104 ?_|refine st ?_|(apply B<;>intro hb<;>try cases hb)))<;>try refine At.mk ?_
 refine Zs rfl ?_
 refine Z6 (Zdu namesNil (2,4) ⟨by decide,by decide⟩) rfl rfl rfl ⟨Zt _,trivial,trivial⟩ rfl ?_
 rw [ZhU]
 (repeat'(first|refine Z5 116 ?_|refine Z1 116 ?_|refine st ?_|(apply B<;>intro hb<;>try cases hb)))<;>try refine At.mk ?_
 refine Zs rfl ?_
 refine Z6 (Z5k 16 (by decide)) rfl rfl rfl ⟨Z0 _,trivial⟩ rfl ?_
 rw [Zhi]
 (repeat'(first|refine Z5 128 ?_|refine Z1 128 ?_|refine st ?_|(apply B<;>intro hb<;>try cases hb)))<;>try refine At.mk ?_
 refine Zs rfl ?_
 refine Z6 (Z5k 4 (by decide)) rfl rfl rfl ⟨Z0 _,trivial⟩ rfl ?_
 rw [Zim]
 (repeat'(first|refine Z5 135 ?_|refine Z1 135 ?_|refine st ?_|(apply B<;>intro hb<;>try cases hb)))<;>try refine At.mk ?_
 refine Zs rfl ?_
 refine Z6 (Z5k 16 (by decide)) rfl rfl rfl ⟨Z0 _,trivial⟩ rfl ?_
 rw [Zhi]
 (refine go ?_;repeat' (apply B<;>intro hb<;>try cases hb))
 all_goals first|exact Z2 rfl trivial rfl|(exfalso; simp_all)
structure MadeW (f:Fm):Prop where
 wf:Wf f
 ty:typeM f.op=1
 depth:f.depth≤4
 size:f.size≤15
 i6:in6 1 f=true
theorem MadeW.six {f:Fm} (m:MadeW f):Made6 f:=⟨m.wf,m.ty,by have:=m.depth; omega,by have:=m.size; omega,m.i6⟩
theorem MadeW.d1000 {f:Fm} (m:MadeW f):f.depth≤1000:=by have:=m.depth; omega
theorem MadeW.sbig {f:Fm} (m:MadeW f):f.size≤1099511627776:=by have:=m.size; omega
theorem ZhV (l:List Nat):bys l=l.map fun (x:Nat) => [PV.val (.int .u8 (x:Int))]:=rfl
theorem Z33 (l:List Nat) (hl:Bytes l) (fl:Bool):Spec Tryz.prog 14 [.vec (bys l) fl] fun r=>∃ f,MadeW f∧r=.agg (fC .i64 f):=by
 have hnl:(bys l).length=l.length:=by simp [bys]
 have hmn:(if (24:Int)<((bys l).length:Int) then (24:Int) else ((bys l).length:Int))=((min l.length 24:Nat):Int):=by rw [hnl]; split<;>omega
 refine Z3 ok14 (Nat.le_of_ble_eq_true rfl) fun C hC=>?_
 (refine go ?_;repeat' (apply B<;>intro hb<;>try cases hb))
 refine Z7 (Zhp (xs:=l) (g:=fun (x:Nat) => [PV.val (.int .u8 (x:Int))]) rfl 0 (min l.length 24) rfl (by show some _=some _; rw [← hmn]) (Nat.zero_le _) (Nat.min_le_left _ _) (fun _=>rfl)) rfl rfl ?_
 rw [← ZhV,List.drop_zero]
 have hl2:Bytes (l.take (min l.length 24)):=fun x hx=>hl x (List.mem_of_mem_take hx)
 refine Zv rfl rfl (ZaG _ hl2 false 1) ⟨Z4M _,trivial,trivial,trivial⟩ rfl ?_
 rintro r ⟨f,wf,tf,df,sf,rfl,i6⟩
 (refine go ?_;repeat' (apply B<;>intro hb<;>try cases hb))
 exact Z2 rfl (Zh _ _) ⟨f,⟨wf,tf,df,sf,i6⟩,rfl⟩
theorem Z3u {f:Fm} (m:MadeW f):Spec Tryz.prog 13 [.agg (fC .i64 f)] (· = .agg (fC .u8 f)):=Z9J 4 f (m.wf.nice 4 f m.depth)
theorem Z3Z:∀ {l m:List Pr},SortedP l→SortedP m→l.Perm m→l=m
 | [],m,_,_,h=>(List.Perm.nil_eq h)
 | a :: l,[],_,_,h=>by have:=h.length_eq; simp at this
 | a :: l, b :: m, h1, h2, h => by
   have h1':=List.pairwise_cons.1 h1
   have h2':=List.pairwise_cons.1 h2
   have hab:a=b:=by
    rcases List.mem_cons.1 (h.mem_iff.1 (List.mem_cons_self (a:=a) (l:=l))) with e|ha
    · exact e
    rcases List.mem_cons.1 (h.mem_iff.2 (List.mem_cons_self (a:=b) (l:=m))) with e|hb
    · exact e.symm
    have x1:=h1'.1 b hb
    have x2:=h2'.1 a ha
    omega
   subst hab
   rw [Z3Z h1'.2 h2'.2 (List.Perm.cons_inv h)]
theorem SortedP.take {l:List Pr} (h:SortedP l) (i:Nat):SortedP (l.take i):=List.Pairwise.sublist (List.take_sublist i l) h
theorem SortedP.nodup {l:List Pr} (h:SortedP l):l.Nodup:=List.Pairwise.imp (fun {a b} h e=>by subst e;omega) h
theorem Zdv {l:List Pr} (h:GoodL l):l.length≤4096:=by
 have hn:(l.map fun p=>p.1*64+p.2).Nodup:=by
  rw [List.nodup_iff_pairwise_ne,List.pairwise_map]
  refine List.Pairwise.imp_of_mem (fun {a b} ha hb hab=>?_) h.asc
  have h1:=h.small a ha
  have h2:=h.small b hb
  show a.1*64+a.2≠b.1*64+b.2
  show a.1*64+a.2≠b.1*64+b.2
  omega
 have:=Z4T 4096 _ hn fun x hx=>by
  obtain⟨p,hp,rfl⟩:=List.mem_map.1 hx
  have:=h.small p hp
  show p.1*64+p.2<4096
  omega
 rwa [List.length_map] at this
set_option maxHeartbeats 4000000 in
theorem Zdw (x:Nat) (hx:x<18446744073709551616):Spec Tryz.prog 15 [.val (.int .u64 (x:Int))] fun r=>∃ l fl S,GoodL l∧r=.tup [hierP l S,.vec (l.map prC) fl]:=by
 refine Z3 ok15 (Nat.le_of_ble_eq_true rfl) fun C hC=>?_
 (repeat'(first|refine Z5 11 ?_|refine Z1 11 ?_|refine st ?_|(apply B<;>intro hb<;>try cases hb)))<;>try refine At.mk ?_
 refine Zv rfl rfl (ZaV x hx) ⟨trivial,trivial⟩ rfl ?_
 rintro r ⟨l,fl,hgl,rfl⟩
 have hll:=Zdv hgl
 have hnl:(l.map prC).length=l.length:=by simp
 have hpl:∀ D,innLL D (l.map prC):=fun D=>Ze (fun _ h=>h.elim) _ (Zi l)
 have hhp:∀ D l S,(hierP l S).inn D:=fun D l S=>PV.inn_mono (fun _ h=>h.elim) _ (Zm l S)
 (repeat'(first|refine Z5 12 ?_|refine Z1 12 ?_|refine st ?_|(apply B<;>intro hb<;>try cases hb)))<;>try refine At.mk ?_
 refine Zv rfl rfl Z3r trivial rfl ?_
 rintro r ⟨S0,rfl⟩
 (refine go ?_;repeat' (apply B<;>intro hb<;>try cases hb))
 refine Zo hC (fun (z:Nat×List Nat)=>z.1≤l.length) (fun z=>l.length-z.1) 0 (fun z => [(2,.val (.pointer none)),(3,.vec [] true),(4,.vec (l.map prC) fl),(5,hierP (l.take z.1) z.2),(13,.vec (l.map prC) fl),(14,.val (.int .i64 l.length)),(15,.val (.int .i64 (z.1:Int)))])
  (fun _=>[]) (Nat.zero_le _) (0,S0) (Nat.zero_le _)
  ⟨⟨rfl,trivial⟩,⟨rfl,trivial⟩,⟨rfl,hpl _⟩,⟨rfl,hhp _ _ _⟩,⟨rfl,hpl _⟩,⟨by rw [← hnl]; rfl,trivial⟩,⟨rfl,trivial⟩,trivial⟩ trivial ?_
 rintro⟨i,S⟩ hi
 simp only at hi
 have hinc:IntKind.i64.wrap ((i:Int)+1)=((i+1:Nat):Int):=IntWalk.i64_in _ ⟨by omega,by omega⟩
 (repeat'(first|refine Z5 16 ?_|refine Z1 16 ?_|refine st ?_|(apply B<;>intro hb<;>try cases hb)))<;>try refine At.mk ?_
 refine Zg rfl rfl rfl (fun hb=>?_) (fun hb=>?_)
 · have hil : i < l.length := by have := of_decide_eq_true hb; omega
   have htk:=Z3O hil
   have hro:=hgl.role _ (List.getElem_mem hil)
   have hsub:∀ p∈l.take i ++ [l[i]],p∈l:=fun p hp=>by rw [← htk] at hp; exact List.mem_of_mem_take hp
   have hno:l[i] ∉ l.take i:=fun h=>by
    have hnd:=SortedP.nodup (SortedP.take hgl.asc (i+1))
    rw [htk,List.nodup_append] at hnd
    exact hnd.2.2 _ h _ (List.mem_singleton.2 rfl) rfl
   clear hb
   (refine go ?_;repeat' (apply B<;>intro hb<;>try cases hb))
   refine Z7 (Zl (xs:=l) (g:=prC) rfl rfl i rfl hil rfl) rfl rfl ?_
   generalize l[i]=p at htk hro hsub hno ⊢
   have hls:=Z6K (l.take i) S p.1 p.2 (by omega) (by omega) hro.2.2.2.2 (fun q hq=>hgl.small q (List.mem_of_mem_take hq)) (SortedP.nodup (SortedP.take hgl.asc i)) hno (hgl.acy.sub hsub) (by rw [List.length_take];omega)
   (repeat'(first|refine Z5 25 ?_|refine Z1 25 ?_|refine st ?_|(apply B<;>intro hb<;>try cases hb)))<;>try refine At.mk ?_
   refine Zv rfl rfl hls ⟨Zm _ _,trivial,trivial,trivial⟩ rfl ?_
   rintro r ⟨l',S',hpm,hst,rfl⟩
   have hle:l'=l.take (i+1):=by
    have hx1:l'.Perm (l.take (i+1)):=by rw [htk]; exact hpm
    exact Z3Z hst (SortedP.take hgl.asc (i+1)) hx1
   subst hle
   (refine go ?_;repeat' (apply B<;>intro hb<;>try cases hb))
   exact⟨(i+1,S'),hil,by simp only; omega,⟨⟨rfl,trivial⟩,⟨rfl,trivial⟩,⟨rfl,hpl _⟩,⟨rfl,hhp _ _ _⟩,⟨rfl,hpl _⟩,⟨rfl,trivial⟩,⟨by show some _=some _; rw [hinc],trivial⟩,trivial⟩,trivial⟩
 · have hil : i = l.length := by have := of_decide_eq_false hb; omega
   subst hil
   clear hb hinc hi
   rw [List.take_length]
   (refine go ?_;repeat' (apply B<;>intro hb<;>try cases hb))
   exact Z2 rfl ⟨Zm l S,Zi l,trivial⟩ ⟨l,fl,S,hgl,rfl⟩
theorem Z9K (l:List Nat):pureLL (seL l):=Z1P (enc:=stC) (fun s=>⟨Zc _,trivial⟩) l
theorem low127 (s:Nat):s &&& 127<256:=Nat.lt_of_le_of_lt Nat.and_le_right (by decide)
theorem Zip {x:RawX} (hx:RawXok x):(fitC x).1<256∧(fitC x).2<256:=by
 obtain⟨a,b,o⟩:=x
 obtain⟨ha,hb⟩:a<256∧b<256:=hx
 unfold fitC makC
 dsimp only
 split
 · exact⟨Nat.lt_of_le_of_lt Nat.and_le_left ha,Nat.lt_of_le_of_lt Nat.and_le_left hb⟩
 · have h1 : a &&& b &&& 63 ≤ 63 := Nat.and_le_right
   have h2:a &&& 63 &&& (255-b)≤63:=Nat.le_trans Nat.and_le_left Nat.and_le_right
   exact⟨by show 2*(a &&& b &&& 63)<256; omega,by show 2*(a &&& 63 &&& (255-b))<256; omega⟩
theorem Zdx {f:Fm} (m:Made6 f) (S:Nat) {c:Cu} (h1:c.1<256) (h2:c.2<256):(hoC c S&&(vioL f).any fun d=>eqC c d)=leastB (vioB f) S c:=by
 have e:((vioL f).any fun d=>eqC c d)=true↔Prime (vioB f) c:=by
  rw [← Z4P m.check,List.any_eq_true]
  constructor
  · rintro ⟨d, hd, he⟩
    rw [(Z8a _ _).1 he]; exact hd
  · intro h
    exact⟨c,h,(Z8a _ _).2 rfl⟩
 rw [Bool.eq_iff_iff,Bool.and_eq_true,e,Zdm (fun S T h=>m.low h) h1 h2]
theorem ZfF {f:Fm} (m:MadeW f) {S:Nat} (hS:S<256) {c:Cu} (h1:c.1<256) (h2:c.2<256) {b:Bool} (h:leastB (vioB f) S c=b):Spec Tryz.prog 41 [.agg (fC .u8 f),setN S,cuP c] (· = .val (.bool b)):=by
 rw [← h,← Zdx m.six S h1 h2]
 exact Z6Q f m.d1000 m.sbig S (by omega) c ⟨by omega,by omega⟩
theorem Zdy {f:Fm} (m:MadeW f) {S:Nat} (hS:S<256) {c:Cu} (h1:c.1<256) (h2:c.2<256) {b:Bool} (h:leastB (vioB f) S c=b):Spec Tryz.prog 43 [.agg (fC .i64 f),.val (.int .u64 (S:Int)),.agg (raC c)] (· = .val (.bool b)):=by
 rw [← h]
 exact Z9D m.six S (by omega) c ⟨by omega,by omega⟩
set_option maxHeartbeats 8000000 in
theorem Z5F (p:List Nat) (s:Nat) (x:RawX) (fl:Bool) (hp:Bytes p) (hs:s<18446744073709551616) (hx:RawXok x):Spec Tryz.prog 8 [.vec (bys p) fl,.val (.int .u64 (s:Int)),.agg (rawC x)] (· = .val (.bool true)):=by
 have h0:bits .and .u64 (s:Int) 127=((s &&& 127:Nat):Int):=Zc3 s 127 hs (by decide)
 have hS:=low127 s
 obtain⟨hc1,hc2⟩:=Zip hx
 have hc:Ok64 (fitC x):=⟨by omega,by omega⟩
 refine Z3 ok8 (Nat.le_of_ble_eq_true rfl) fun C hC=>?_
 (repeat'(first|refine Z5 9 ?_|refine Z1 9 ?_|refine st ?_|(apply B<;>intro hb<;>try cases hb)))<;>try refine At.mk ?_
 refine Z6 Z3t rfl rfl rfl trivial rfl ?_
 (repeat'(first|refine Z5 12 ?_|refine Z1 12 ?_|refine st ?_|(apply B<;>intro hb<;>try cases hb)))<;>try refine At.mk ?_
 refine Z59 rfl rfl (.inl rfl) (Z33 p hp fl) ⟨Z4M _,trivial⟩ ?_
 rintro r ⟨f,m,rfl⟩
 have hpf:=Zh .i64 f
 have hpg:=Zh .u8 f
 (repeat'(first|refine Z5 14 ?_|refine Z1 14 ?_|refine st ?_|(apply B<;>intro hb<;>try cases hb)))<;>try refine At.mk ?_
 refine Zq (Zdk x hx) rfl rfl rfl ⟨Zfg x,trivial⟩ ?_
 generalize fitC x=c at hc1 hc2 hc ⊢
 (repeat'(first|refine Z5 16 ?_|refine Z1 16 ?_|refine st ?_|(apply B<;>intro hb<;>try cases hb)))<;>try refine At.mk ?_
 refine Zq (Z3u m) rfl rfl rfl ⟨hpf,trivial⟩ ?_
 (repeat'(first|refine Z5 19 ?_|refine Z1 19 ?_|refine st ?_|(apply B<;>intro hb<;>try cases hb)))<;>try refine At.mk ?_
 refine Zq (Z2L (s &&& 127) (by omega)) rfl rfl (by rw [← h0]; rfl) ⟨trivial,trivial⟩ ?_
 (repeat'(first|refine Z5 21 ?_|refine Z1 21 ?_|refine st ?_|(apply B<;>intro hb<;>try cases hb)))<;>try refine At.mk ?_
 refine Zq (ZaJ c hc) rfl rfl rfl ⟨Z1m c,trivial⟩ ?_
 (repeat'(first|refine Z5 22 ?_|refine Z1 22 ?_|refine st ?_|(apply B<;>intro hb<;>try cases hb)))<;>try refine At.mk ?_
 cases hb:leastB (vioB f) (s &&& 127) c
 all_goals
  refine Zq (ZfF m hS hc1 hc2 hb) rfl rfl rfl ⟨hpg,Z0 _,Zt c,trivial⟩ ?_
  (repeat'(first|refine Z5 27 ?_|refine Z1 27 ?_|refine st ?_|(apply B<;>intro hb<;>try cases hb)))<;>try refine At.mk ?_
  refine Zq (Zdy m hS hc1 hc2 hb) rfl rfl (by rw [← h0]; rfl) ⟨hpf,trivial,Z1m c,trivial⟩ ?_
  (refine go ?_;repeat' (apply B<;>intro hb<;>try cases hb))
  exact Z2 rfl trivial rfl
end Go.Proofs.YtjpkfigmmmngnaaGreatDoor
