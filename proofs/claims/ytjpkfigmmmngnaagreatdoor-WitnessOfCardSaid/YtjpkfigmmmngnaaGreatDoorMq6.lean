/-
 Proved: for every input the law WitnessOf returns true,never panics,and leaves its arguments as0 they were,on the given card's conditions (the table of the bits package reads as0 the program's text lays it,and is tied to it).
-/
import Derived.KernelRfl
import Derived.Lib.OthersKept
import Derived.SevenTiedAt
import Derived.Shelf.SlSortCmp.NoneTotal
import Derived.Shelf.Strconv.Itoa3
import Derived.Shelf.Strings.Builder1
import Derived.Shelf.Strings.BuilderF
import Derived.Shelf.Strings.BuilderK
import Derived.Shelf.Strings.OnBuilder
import Derived.TacticsInMore
import Derived.Test.YtjpkfigmmmngnaaGreatDoorCards
import Derived.Test.YtjpkfigmmmngnaaGreatDoorChecked
import Derived.Test.YtjpkfigmmmngnaaGreatDoorTie
import Derived.Test.YtjpkfigmmmngnaaGreatDoorMq5
set_option linter.unusedSimpArgs false
set_option linter.unusedVariables false
set_option linter.unusedSectionVars false
namespace Go.Proofs.YtjpkfigmmmngnaaGreatDoor
open Go.RowKit
attribute [local irreducible] aw opsK dK
def lexTail (a b:List Int):Int:=if a.length<b.length then -1 else if b.length<a.length then 1 else 0
def lexZ:List Int→List Int→Int
 | [],[]=>0
 | [],_ :: _ => -1
 | _ :: _,[]=>1
 | x :: xs,y :: ys=>if x<y then -1 else if y<x then 1 else lexZ xs ys
theorem Zel:∀ (a b:List Nat),lexZ (intsN a) (intsN b)=lexI a b
 | [],[]=>rfl
 | [],_ :: _=>rfl
 | _ :: _,[]=>rfl
 | x :: xs, y :: ys => by
   have ih:=Zel xs ys
   show (if (x:Int)<(y:Int) then -1 else if (y:Int)<(x:Int) then 1 else lexZ (intsN xs) (intsN ys))=if x<y then -1 else if y<x then 1 else lexI xs ys
   rw [ih]
   by_cases h1:x<y
   · rw [if_pos h1,if_pos (by omega)]
   · rw [if_neg h1, if_neg (by omega)]
     by_cases h2:y<x
     · rw [if_pos h2,if_pos (by omega)]
     · rw [if_neg h2,if_neg (by omega)]
theorem Zem {a b:List Int} {i:Nat} (h1:i<a.length) (h2:i<b.length):lexZ (a.drop i) (b.drop i)=if a[i]<b[i] then -1 else if b[i]<a[i] then 1 else lexZ (a.drop (i+1)) (b.drop (i+1)):=by
 rw [List.drop_eq_getElem_cons h1,List.drop_eq_getElem_cons h2,lexZ]
theorem ZfN:∀ {a b:List Int},a = [] ∨ b = []→lexZ a b=lexTail a b
 | [],[],_=>rfl
 | [],_ :: _,_=>by simp [lexZ,lexTail]
 | _ :: _,[],_=>by simp [lexZ,lexTail]
 | _ :: _,_ :: _,h=>by rcases h with h|h<;>cases h
set_option maxHeartbeats 4000000 in
theorem Z4v (a b:List Int) (f1 f2:Bool):Spec Tryz.prog 117 [.vec (nums a) f1,.vec (nums b) f2] (· = .val (.int .i64 (lexZ a b))):=by
 have hla:=Zt a
 have hlb:=Zt b
 refine Z3 ok117 (Nat.le_of_ble_eq_true rfl) fun C hC=>?_
 refine Z2T (k:=0) rfl fun hmax=>?_
 have hlm:a.length≤maxVec:=by rw [hla] at hmax; exact hmax
 (refine go ?_;repeat' (apply B<;>intro hb<;>try cases hb))
 refine Zr hC (fun i=>i≤a.length∧i≤b.length∧lexZ a b=lexZ (a.drop i) (b.drop i)) (fun i=>a.length-i) 0 (fun i => [(0,.vec (nums a) f1),(1,.vec (nums b) f2),(5,.val (.int .i64 (i:Int)))]) (fun _=>[]) (Nat.le_refl _) 0 ⟨Nat.zero_le _,Nat.zero_le _,rfl⟩
  ⟨⟨rfl,Zw _ _⟩,⟨rfl,Zw _ _⟩,⟨rfl,trivial⟩,trivial⟩ trivial ?_
 rintro i ⟨hi,hib,hlex⟩
 have hinc:IntKind.i64.wrap ((i:Int)+1)=((i+1:Nat):Int):=IntWalk.i64_in _ ⟨by omega,by simp only [maxVec] at hlm; omega⟩
 have stop:i=a.length ∨ i=b.length→lexZ a b=if a.length<b.length then -1 else if b.length<a.length then 1 else 0:=by
  intro h
  rw [hlex,ZfN (by rcases h with h|h<;>subst h<;>simp),lexTail]
  simp only [List.length_drop]
  by_cases h1:a.length<b.length
  · rw [if_pos h1,if_pos (by omega)]
  · rw [if_neg h1, if_neg (by omega)]
    by_cases h2:b.length<a.length
    · rw [if_pos h2,if_pos (by omega)]
    · rw [if_neg h2,if_neg (by omega)]
 (refine go ?_;repeat' (apply B<;>intro hb<;>try cases hb))
 · rename_i hA
   have hia:i<a.length:=by have:=of_decide_eq_true hA; rw [hla] at this; omega
   have hibl:i<b.length:=by have:=of_decide_eq_true hb; rw [hlb] at this; omega
   have hstep:=Zem hia hibl
   clear hb
   refine Zo (Zk (xs:=a) rfl rfl i rfl hia rfl) rfl rfl ?_
   (refine go ?_;repeat' (apply B<;>intro hb<;>try cases hb))
   refine Zo (Zk (xs:=b) rfl rfl i rfl hibl rfl) rfl rfl ?_
   (refine go ?_;repeat' (apply B<;>intro hb<;>try cases hb))
   · have t := of_decide_eq_true hb
     exact Z1 rfl trivial (by rw [hlex,hstep,if_pos t]; rfl)
   · have t := of_decide_eq_false hb
     rw [if_neg t] at hstep
     clear hb
     refine Zo (Zk (xs:=a) rfl rfl i rfl hia rfl) rfl rfl ?_
     (refine go ?_;repeat' (apply B<;>intro hb<;>try cases hb))
     refine Zo (Zk (xs:=b) rfl rfl i rfl hibl rfl) rfl rfl ?_
     (refine go ?_;repeat' (apply B<;>intro hb<;>try cases hb))
     · have u := of_decide_eq_true hb
       exact Z1 rfl trivial (by rw [hlex,hstep,if_pos u]; rfl)
     · have u := of_decide_eq_false hb
       rw [if_neg u] at hstep
       exact⟨i+1,⟨by omega,by omega,by rw [hlex,hstep]⟩,by omega,⟨⟨rfl,Zw _ _⟩,⟨rfl,Zw _ _⟩,⟨by show some _=some _; rw [hinc],trivial⟩,trivial⟩,trivial⟩
 · rename_i hA hB
   have e:=stop (.inr (by have:=of_decide_eq_false hB; rw [hlb] at this;omega))
   have t:=of_decide_eq_true hb
   rw [hla,hlb] at t
   exact Z1 rfl trivial (by rw [e,if_pos (by omega)]; rfl)
 · rename_i hA hB hL
   have e:=stop (.inr (by have:=of_decide_eq_false hB; rw [hlb] at this;omega))
   have t:=of_decide_eq_true hb
   rw [hla,hlb] at t
   exact Z1 rfl trivial (by rw [e,if_neg (by omega),if_pos (by omega)]; rfl)
 · rename_i hA hB hL
   have e:=stop (.inr (by have:=of_decide_eq_false hB; rw [hlb] at this;omega))
   have t:=of_decide_eq_false hb
   have u:=of_decide_eq_false hL
   rw [hla,hlb] at t u
   exact Z1 rfl trivial (by rw [e,if_neg (by omega),if_neg (by omega)]; rfl)
 · rename_i hA
   have e:=stop (.inl (by have:=of_decide_eq_false hA; rw [hla] at this;omega))
   have t:=of_decide_eq_true hb
   rw [hla,hlb] at t
   exact Z1 rfl trivial (by rw [e,if_pos (by omega)]; rfl)
 · rename_i hA hL
   have e:=stop (.inl (by have:=of_decide_eq_false hA; rw [hla] at this;omega))
   have t:=of_decide_eq_true hb
   rw [hla,hlb] at t
   exact Z1 rfl trivial (by rw [e,if_neg (by omega),if_pos (by omega)]; rfl)
 · rename_i hA hL
   have e:=stop (.inl (by have:=of_decide_eq_false hA; rw [hla] at this;omega))
   have t:=of_decide_eq_false hb
   have u:=of_decide_eq_false hL
   rw [hla,hlb] at t u
   exact Z1 rfl trivial (by rw [e,if_neg (by omega),if_neg (by omega)]; rfl)
attribute [local irreducible] sgnI keyK in
set_option maxHeartbeats 2000000 in
theorem Z6t (a b:Cu) (ha:Ok64 a) (hb0:Ok64 b):Spec Tryz.prog 74 [.agg (raC a),.agg (raC b)] (· = .val (.int .i64 (cmpC a b))):=by
 have e1:lexZ (intsN (mem a.1)) (intsN (mem b.1))=sgnI (key a.1) (key b.1):=by rw [Zel,ZdB ha.1 hb0.1]
 have e2:lexZ (intsN (mem a.2)) (intsN (mem b.2))=sgnI (key a.2) (key b.2):=by rw [Zel,ZdB ha.2 hb0.2]
 refine Z3 ok74 (Nat.le_of_ble_eq_true rfl) fun C hC=>?_
 refine Zi ?_
 refine Z9 ?_
 refine Z4 rfl rfl rfl ?_
 refine Z4 rfl rfl rfl ?_
 (refine go ?_;repeat' (apply B<;>intro hb<;>try cases hb))
 refine Zq (Z16 a.1 ha.1) rfl rfl rfl ⟨trivial,trivial⟩ ?_
 (refine go ?_;repeat' (apply B<;>intro hb<;>try cases hb))
 refine Zq (Z16 b.1 hb0.1) rfl rfl rfl ⟨trivial,trivial⟩ ?_
 refine Zq (Z4v (intsN (mem a.1)) (intsN (mem b.1)) false false) rfl rfl rfl ⟨Z7 _,Z7 _,trivial⟩ ?_
 rw [e1]
 (refine go ?_;repeat' (apply B<;>intro hb<;>try cases hb))
 · have h : sgnI (key a.1) (key b.1) ≠ 0 := by simpa using hb
   exact Z1 rfl trivial (by rw [cmpC,if_pos h])
 · have h : ¬ sgnI (key a.1) (key b.1) ≠ 0 := by simpa using hb
   clear hb
   refine Zq (Z16 a.2 ha.2) rfl rfl rfl ⟨trivial,trivial⟩ ?_
   (refine go ?_;repeat' (apply B<;>intro hb<;>try cases hb))
   refine Zq (Z16 b.2 hb0.2) rfl rfl rfl ⟨trivial,trivial⟩ ?_
   refine Zq (Z4v (intsN (mem a.2)) (intsN (mem b.2)) false false) rfl rfl rfl ⟨Z7 _,Z7 _,trivial⟩ ?_
   rw [e2]
   (refine go ?_;repeat' (apply B<;>intro hb<;>try cases hb))
   exact Z1 rfl trivial (by rw [cmpC,if_neg h])
end Go.Proofs.YtjpkfigmmmngnaaGreatDoor
namespace Go.Proofs.YtjpkfigmmmngnaaGreatDoor
open Go.RowKit
theorem orSub {a b:Nat}:a ||| b=b↔∀ i,a.testBit i=true→b.testBit i=true:=by
 constructor
 · intro h i hi
   rw [← h,Nat.testBit_or,hi,Bool.true_or]
 · intro h
   refine Nat.eq_of_testBit_eq fun i=>?_
   rw [Nat.testBit_or]
   cases hi:a.testBit i with
   | true=>rw [h i hi]; rfl
   | false=>rw [Bool.false_or]
noncomputable def sen (l:List Pr) (r:Nat):Nat:=abv l r ||| 2 ^ r
theorem Z67 {l:List Pr} (hl:Small l) (r a:Nat):(sen l r).testBit a=true↔Up l a r ∨ a=r:=by
 unfold sen
 rw [Nat.testBit_or,Bool.or_eq_true,Z64 hl,Nat.testBit_two_pow,decide_eq_true_eq,eq_comm (a:=r)]
theorem ZgV {l:List Pr} (hl:Small l) {s:Nat} (hs:s<18446744073709551616) (r:Nat):(clo l s).testBit r=true↔∃ a,s.testBit a=true∧1≤a∧(sen l r).testBit a=true:=by
 rw [ZgU s r hs]
 constructor
 · rintro ⟨a, h1, h2, h3⟩
   exact⟨a,h1,h2,(Z67 hl r a).2 ((Zeg hl a r).1 h3 |>.imp (fun h=>h) fun h=>h.symm)⟩
 · rintro ⟨a, h1, h2, h3⟩
   exact⟨a,h1,h2,(Zeg hl a r).2 ((Z67 hl r a).1 h3 |>.imp (fun h=>h) fun h=>h.symm)⟩
def subM:List Nat→Nat→Nat
 | [],_=>0
 | r :: l,m=>(if m.testBit 0 then 2 ^ r else 0) ||| subM l (m / 2)
theorem Z8Z:∀ (l:List Nat) (r m:Nat),subM (l ++ [r]) m=subM l m ||| (if m.testBit l.length then 2 ^ r else 0)
 | [],r,m=>by simp [subM]
 | a :: l, r, m => by
   show (if m.testBit 0 then 2 ^ a else 0) ||| subM (l ++ [r]) (m / 2)=(if m.testBit 0 then 2 ^ a else 0) ||| subM l (m / 2) ||| (if m.testBit (l.length+1) then 2 ^ r else 0)
   rw [Z8Z l r (m / 2),Nat.or_assoc,Nat.testBit_succ]
theorem Z4w:∀ (l:List Nat) (m i:Nat),(subM l m).testBit i=true↔∃ k,∃ h:k<l.length,l[k]=i∧m.testBit k=true
 | [],m,i=>by simp [subM]
 | a :: l, m, i => by
   show ((if m.testBit 0 then 2 ^ a else 0) ||| subM l (m / 2)).testBit i=true↔_
   rw [Nat.testBit_or,Bool.or_eq_true,Z4w l (m / 2) i]
   constructor
   · rintro (h | ⟨k, hk, h1, h2⟩)
     · by_cases hm : m.testBit 0 = true
       · rw [if_pos hm, Nat.testBit_two_pow, decide_eq_true_eq] at h
         exact⟨0,by simp,h,hm⟩
       · rw [if_neg hm,Nat.zero_testBit] at h; cases h
     · exact⟨k+1,by simp only [List.length_cons]; omega,h1,by rw [Nat.testBit_succ]; exact h2⟩
   · rintro ⟨k, hk, h1, h2⟩
     match k,hk,h1,h2 with
     | 0, _, h1, h2 =>
       left
       rw [if_pos h2,Nat.testBit_two_pow,decide_eq_true_eq]; exact h1
     | k + 1, hk, h1, h2 =>
       right
       exact⟨k,by simp only [List.length_cons] at hk; omega,h1,by rw [← Nat.testBit_succ]; exact h2⟩
theorem Zbl {l:List Nat} (hl:l.Nodup) (m:Nat) {k:Nat} (hk:k<l.length):(subM l m).testBit l[k]=m.testBit k:=by
 rw [Bool.eq_iff_iff,Z4w]
 constructor
 · rintro ⟨j, hj, h1, h2⟩
   obtain rfl:j=k:=by
    have hp:=List.pairwise_iff_getElem.1 (List.nodup_iff_pairwise_ne.1 hl)
    rcases Nat.lt_trichotomy j k with h|h|h
    · exact absurd h1 (hp j k hj hk h)
    · exact h
    · exact absurd h1.symm (hp k j hk hj h)
   exact h2
 · exact fun h=>⟨k,hk,rfl,h⟩
theorem ZfO {l:List Nat} (hl:l.Nodup) {m m':Nat} (h1:m<2 ^ l.length) (h2:m'<2 ^ l.length) (h:subM l m=subM l m'):m=m':=by
 refine Nat.eq_of_testBit_eq fun k=>?_
 by_cases hk:k<l.length
 · rw [← Zbl hl m hk,← Zbl hl m' hk,h]
 · have hp : 2 ^ l.length ≤ 2 ^ k := Nat.pow_le_pow_right (by decide) (by omega)
   rw [Nat.testBit_lt_two_pow (Nat.lt_of_lt_of_le h1 hp),Nat.testBit_lt_two_pow (Nat.lt_of_lt_of_le h2 hp)]
theorem Z68:∀ (l:List Nat) (s:Nat),(∀ i,s.testBit i=true→i∈l)→∃ m,m<2 ^ l.length∧subM l m=s
 | [], s, h => ⟨0, by decide, Nat.eq_of_testBit_eq fun i => by
   rw [show subM [] 0=0 from rfl,Nat.zero_testBit]
   exact (Bool.eq_false_iff.2 fun hb=>by cases h i hb).symm⟩
 | a :: l, s, h => by
   by_cases ha:a∈l
   · obtain ⟨m, h1, h2⟩ := Z68 l s fun i hi => by
      rcases List.mem_cons.1 (h i hi) with rfl|h3
      · exact ha
      · exact h3
     refine⟨2*m,by rw [List.length_cons,Nat.pow_succ]; omega,?_⟩
     show (if (2*m).testBit 0 then 2 ^ a else 0) ||| subM l (2*m / 2)=s
     rw [show 2*m / 2=m by omega,h2,if_neg (by rw [Nat.testBit_zero]; simp),Nat.zero_or]
   · have hex : ∀ i, (s ^^^ (if s.testBit a then 2 ^ a else 0)).testBit i = (s.testBit i && !decide (a = i)) := fun i => by
      rw [Nat.testBit_xor]
      by_cases hsa:s.testBit a=true
      · rw [if_pos hsa, Nat.testBit_two_pow]
        by_cases hi:a=i
        · subst hi; rw [hsa]; simp
        · rw [decide_eq_false hi]; simp
      · rw [if_neg hsa, Nat.zero_testBit]
        by_cases hi:a=i
        · subst hi; rw [Bool.eq_false_iff.2 hsa]; simp
        · rw [decide_eq_false hi]; simp
     obtain⟨m,h1,h2⟩:=Z68 l (s ^^^ (if s.testBit a then 2 ^ a else 0)) fun i hi=>by
      rw [hex,Bool.and_eq_true] at hi
      rcases List.mem_cons.1 (h i hi.1) with rfl|h3
      · simp at hi
      · exact h3
     refine⟨2*m+(if s.testBit a then 1 else 0),by rw [List.length_cons,Nat.pow_succ]; split<;>omega,?_⟩
     show (if (2*m+(if s.testBit a then 1 else 0)).testBit 0 then 2 ^ a else 0) ||| subM l ((2*m+(if s.testBit a then 1 else 0)) / 2)=s
     have hd:(2*m+(if s.testBit a then 1 else 0)) / 2=m:=by split<;>omega
     have ht:(2*m+(if s.testBit a then 1 else 0)).testBit 0=s.testBit a:=by
      rw [Nat.testBit_zero]
      cases s.testBit a
      · simp
      · rw [if_pos rfl,show (2*m+1) % 2=1 by omega]; rfl
     rw [hd,ht,h2]
     refine Nat.eq_of_testBit_eq fun i=>?_
     rw [Nat.testBit_or,hex]
     by_cases hi:a=i
     · subst hi
       cases hsa:s.testBit a
       · simp
       · rw [if_pos rfl,Nat.testBit_two_pow]; simp
     · rw [decide_eq_false hi]
       cases hsa:s.testBit a
       · simp
       · rw [if_pos rfl,Nat.testBit_two_pow,decide_eq_false hi]; simp
structure Mins (S:Nat→Prop) (good:Nat→Bool) (out:List Nat):Prop where
 nd:out.Nodup
 iff:∀ s,s∈out↔S s∧good s=true∧∀ s',S s'→good s'=true→popK 64 s≤popK 64 s'
theorem Z69 {S:Nat→Prop} {good:Nat→Bool} (f:Nat→Nat):∀ (k:Nat) (s:Nat),f s≤k→S s→good s=true→∃ s,S s∧good s=true∧∀ s',S s'→good s'=true→f s≤f s'
 | 0,s,hk,h1,h2=>⟨s,h1,h2,fun s' _ _=>by omega⟩
 | k + 1, s, hk, h1, h2 => by
   by_cases h:∃ s',S s'∧good s'=true∧f s'<f s
   · obtain ⟨s', h3, h4, h5⟩ := h
     exact Z69 f k s' (by omega) h3 h4
   · exact⟨s,h1,h2,fun s' h3 h4=>Nat.le_of_not_lt fun h5=>h ⟨s',h3,h4,h5⟩⟩
theorem Mins.nil_iff {S:Nat→Prop} {good:Nat→Bool} {out:List Nat} (h:Mins S good out):out = []↔∀ s,S s→good s=false:=by
 constructor
 · intro he s hs
   refine Bool.eq_false_iff.2 fun hg=>?_
   obtain⟨m,h1,h2,h3⟩:=Z69 (S:=S) (good:=good) (popK 64) (popK 64 s) s (Nat.le_refl _) hs hg
   have:=(h.iff m).2 ⟨h1,h2,h3⟩
   rw [he] at this; cases this
 · intro hn
   refine List.eq_nil_iff_forall_not_mem.2 fun s hs=>?_
   obtain⟨h1,h2,_⟩:=(h.iff s).1 hs
   rw [hn s h1] at h2; cases h2
def smStep (good:Nat→Bool) (out:List Nat) (s:Nat):List Nat :=
 match out with
 | []=>if good s then [s] else []
 | a :: r=>if popK 64 a<popK 64 s then a :: r else if good s then (if popK 64 s<popK 64 a then [s] else a :: r ++ [s]) else a :: r
theorem Mins.step {S:Nat→Prop} {good:Nat→Bool} {out:List Nat} (h:Mins S good out) {s:Nat} (hs:¬ S s):Mins (fun x=>S x ∨ x=s) good (smStep good out s):=by
 have same:good s=false→Mins (fun x=>S x ∨ x=s) good out:=fun hg=>⟨h.nd,fun x=>by
  rw [h.iff x]
  constructor
  · rintro ⟨h1, h2, h3⟩
    refine⟨.inl h1,h2,fun s' hs' hg'=>?_⟩
    rcases hs' with hs' | rfl
    · exact h3 s' hs' hg'
    · rw [hg] at hg'; cases hg'
  · rintro ⟨h1, h2, h3⟩
    rcases h1 with h1|rfl
    · exact⟨h1,h2,fun s' hs' hg'=>h3 s' (.inl hs') hg'⟩
    · rw [hg] at h2; cases h2⟩
 match out,h,same with
 | [], h, same =>
   show Mins _ _ (if good s then [s] else [])
   cases hg:good s with
   | false=>exact same hg
   | true =>
     have hn:=h.nil_iff.1 rfl
     refine⟨by simp,fun x=>?_⟩
     rw [if_pos rfl,List.mem_singleton]
     constructor
     · rintro rfl
       refine⟨.inr rfl,hg,fun s' hs' hg'=>?_⟩
       rcases hs' with hs' | rfl
       · rw [hn s' hs'] at hg'; cases hg'
       · exact Nat.le_refl _
     · rintro ⟨h1 | h1, h2, h3⟩
       · rw [hn x h1] at h2; cases h2
       · exact h1
 | a :: r, h, same =>
   show Mins _ _ (if popK 64 a<popK 64 s then a :: r else if good s then (if popK 64 s<popK 64 a then [s] else a :: r ++ [s]) else a :: r)
   obtain⟨ha1,ha2,ha3⟩:=(h.iff a).1 (List.mem_cons_self ..)
   by_cases h1:popK 64 a<popK 64 s
   · rw [if_pos h1]
     refine⟨h.nd,fun x=>?_⟩
     rw [h.iff x]
     constructor
     · rintro ⟨h4, h5, h6⟩
       refine⟨.inl h4,h5,fun s' hs' hg'=>?_⟩
       rcases hs' with hs' | rfl
       · exact h6 s' hs' hg'
       · have:=h6 a ha1 ha2; omega
     · rintro ⟨h4 | rfl, h5, h6⟩
       · exact⟨h4,h5,fun s' hs' hg'=>h6 s' (.inl hs') hg'⟩
       · have:=h6 a (.inl ha1) ha2; omega
   rw [if_neg h1]
   cases hg:good s with
   | false=>exact same hg
   | true =>
     rw [if_pos rfl]
     by_cases h2:popK 64 s<popK 64 a
     · rw [if_pos h2]
       refine⟨by simp,fun x=>?_⟩
       rw [List.mem_singleton]
       constructor
       · rintro rfl
         refine⟨.inr rfl,hg,fun s' hs' hg'=>?_⟩
         rcases hs' with hs' | rfl
         · have:=ha3 s' hs' hg'; omega
         · exact Nat.le_refl _
       · rintro ⟨h4 | h4, h5, h6⟩
         · have := ha3 x h4 h5
           have:=h6 s (.inr rfl) hg
           omega
         · exact h4
     · rw [if_neg h2]
       have hsn:s ∉ a :: r:=fun hm=>hs ((h.iff s).1 hm).1
       refine⟨List.nodup_append.2 ⟨h.nd,by simp,fun x hx y hy=>by rw [List.mem_singleton] at hy; subst hy; exact fun e=>hsn (e▸hx)⟩,fun x=>?_⟩
       rw [List.mem_append,List.mem_singleton,h.iff x]
       constructor
       · rintro (⟨h4, h5, h6⟩ | rfl)
         · refine ⟨.inl h4, h5, fun s' hs' hg' => ?_⟩
           rcases hs' with hs' | rfl
           · exact h6 s' hs' hg'
           · have:=h6 a ha1 ha2; omega
         · refine ⟨.inr rfl, hg, fun s' hs' hg' => ?_⟩
           rcases hs' with hs' | rfl
           · have:=ha3 s' hs' hg'; omega
           · exact Nat.le_refl _
       · rintro ⟨h4 | rfl, h5, h6⟩
         · exact .inl ⟨h4,h5,fun s' hs' hg'=>h6 s' (.inl hs') hg'⟩
         · exact .inr rfl
theorem Mins.congr {S S':Nat→Prop} {good:Nat→Bool} {out:List Nat} (h:Mins S good out) (hS:∀ s,S s↔S' s):Mins S' good out:=⟨h.nd,fun s=>by
 rw [h.iff s,hS s]
 exact⟨fun ⟨a,b,c⟩=>⟨a,b,fun s' hs=>c s' ((hS s').2 hs)⟩,fun ⟨a,b,c⟩=>⟨a,b,fun s' hs=>c s' ((hS s').1 hs)⟩⟩⟩
theorem Mins.perm {S:Nat→Prop} {good:Nat→Bool} {out out':List Nat} (h:Mins S good out) (hp:out'.Perm out):Mins S good out':=⟨hp.nodup_iff.2 h.nd,fun s=>by rw [hp.mem_iff,h.iff s]⟩
theorem Mins.begin (good:Nat→Bool):Mins (fun _=>False) good []:=⟨List.nodup_nil,fun s=>by simp⟩
def tried (l:List Nat) (m:Nat) (s:Nat):Prop:=∃ j,j<m∧subM l j=s
theorem Zen {l:List Nat} (hl:l.Nodup) {m:Nat} (hm:m<2 ^ l.length):¬ tried l m (subM l m):=by
 rintro⟨j,hj,h⟩
 have:=ZfO hl (by omega) hm h
 omega
theorem ZcA (l:List Nat) (m s:Nat):tried l (m+1) s↔tried l m s ∨ s=subM l m:=by
 constructor
 · rintro ⟨j, hj, h⟩
   by_cases he:j=m
   · subst he; exact .inr h.symm
   · exact .inl ⟨j,by omega,h⟩
 · rintro (⟨j, hj, h⟩ | h)
   · exact⟨j,by omega,h⟩
   · exact⟨m,Nat.lt_succ_self m,h.symm⟩
theorem Zeo {E:Nat} (hE:E<18446744073709551616) (s:Nat):tried (mem E) (2 ^ (mem E).length) s↔s ||| E=E:=by
 constructor
 · rintro ⟨j, _, rfl⟩
   refine orSub.2 fun i hi=>?_
   obtain⟨k,hk,h1,_⟩:=(Z4w _ _ _).1 hi
   exact (Z1s hE).1 (h1▸List.getElem_mem hk)
 · intro h
   exact Z68 (mem E) s fun i hi=>(Z1s hE).2 (orSub.1 h i hi)
def SortedK (l:List Nat):Prop:=l.Pairwise fun a b=>key a≤key b
theorem Z50:∀ {l m:List Nat},(∀ a∈l,a<18446744073709551616)→SortedK l→SortedK m→l.Perm m→l=m
 | [],m,_,_,_,h=>(List.Perm.nil_eq h)
 | a :: l,[],_,_,_,h=>by have:=h.length_eq; simp at this
 | a :: l, b :: m, hx, h1, h2, h => by
   have h1':=List.pairwise_cons.1 h1
   have h2':=List.pairwise_cons.1 h2
   have hab:a=b:=by
    rcases List.mem_cons.1 (h.mem_iff.1 (List.mem_cons_self (a:=a) (l:=l))) with e|ha
    · exact e
    rcases List.mem_cons.1 (h.mem_iff.2 (List.mem_cons_self (a:=b) (l:=m))) with e|hb
    · exact e.symm
    have x1:=h1'.1 b hb
    have x2:=h2'.1 a ha
    exact Z9P (hx a (List.mem_cons_self ..)) (hx b (List.mem_cons_of_mem _ hb)) (by omega)
   subst hab
   rw [Z50 (fun x hm=>hx x (List.mem_cons_of_mem _ hm)) h1'.2 h2'.2 (List.Perm.cons_inv h)]
theorem Zgh {x fr n:Nat} (h:x ||| fr=fr) (hf:fr<n):x<n:=Nat.lt_of_le_of_lt (by rw [← h]; exact Nat.left_le_or) hf
theorem Z90 {S:Nat→Prop} {good:Nat→Bool} {l m:List Nat} (h1:Mins S good l) (h2:Mins S good m) (hs:∀ s,S s→s<18446744073709551616) (s1:SortedK l) (s2:SortedK m):l=m :=
 Z50 (fun a ha=>hs a ((h1.iff a).1 ha).1) s1 s2 ((List.perm_ext_iff_of_nodup h1.nd h2.nd).2 fun x=>by rw [h1.iff,h2.iff])
def imp8 (φ:Nat→Bool) (c:Cu):Bool := !emC c&&(List.range 256).all fun s => !hoC c s||φ s
def leaC (φ:Nat→Bool) (c:Cu) (i:Nat):Bool:=(List.range i).all fun r => !(c.1.testBit r&&imp8 φ (c.1-2 ^ r,c.2)) && !(c.2.testBit r&&imp8 φ (c.1,c.2-2 ^ r))
def leastB (φ:Nat→Bool) (S:Nat) (c:Cu):Bool:=hoC c S&&(imp8 φ c&&leaC φ c 8)
theorem Z4M {N i:Nat} (h:N.testBit i=true) (j:Nat):(N-2 ^ i).testBit j=(N.testBit j && !decide (i=j)):=by
 rw [ZS h]
 congr 1
 by_cases e:i=j
 · subst e; simp
 · rw [decide_eq_false e,decide_eq_true (Ne.symm e)]; rfl
theorem Z81 {φ:Nat→Bool} (hφ:∀ S T,(∀ i,1≤i→i≤6→S.testBit i=T.testBit i)→φ S=φ T) {c:Cu} (h1:c.1<256) (h2:c.2<256):imp8 φ c=true↔emC c=false∧Impl φ c:=by
 unfold imp8 Impl
 rw [Bool.and_eq_true,List.all_eq_true,Bool.not_eq_true']
 refine and_congr_right fun he=>?_
 constructor
 · intro h S hS
   have hm:∀ i,(S % 256).testBit i=(decide (i<8)&&S.testBit i):=fun i=>by rw [show 256=2 ^ 8 from rfl,Nat.testBit_mod_two_pow]
   have hb:∀ {x:Nat},x<256→∀ i,x.testBit i=true→i<8:=fun hx i hi=>Nat.lt_of_not_le fun h8=>by
    rw [Nat.testBit_lt_two_pow (Nat.lt_of_lt_of_le hx (Nat.pow_le_pow_right (n:=2) (by decide) h8))] at hi; cases hi
   have hS':hoC c (S % 256)=true:=by
    rw [Z3E] at hS ⊢
    refine⟨fun i hi=>?_,fun i hi=>?_⟩
    · rw [hm,decide_eq_true (hb h1 i hi),hS.1 i hi]; rfl
    · rw [hm,hS.2 i hi,Bool.and_false]
   have h3:=h (S % 256) (List.mem_range.2 (Nat.mod_lt _ (by decide)))
   rw [hS',Bool.not_true,Bool.false_or] at h3
   rw [← h3]
   exact hφ _ _ fun i hi1 hi6=>by rw [hm,decide_eq_true (by omega),Bool.true_and]
 · intro h s hs
   cases hh:hoC c s with
   | false=>rfl
   | true=>rw [h s hh]; rfl
theorem Z6a (c:Cu):emC c=false↔c.1 &&& c.2=0:=by
 unfold emC
 rw [decide_eq_false_iff_not]
 exact Decidable.not_not
theorem ZfP {c:Cu} (h:emC c=false) {i:Nat} (hi:c.1.testBit i=true):emC (c.1-2 ^ i,c.2)=false:=by
 rw [Z6a] at h ⊢
 refine Nat.eq_of_testBit_eq fun j=>?_
 have:=congrArg (fun z=>Nat.testBit z j) h
 simp only [Nat.testBit_and,Nat.zero_testBit] at this ⊢
 rw [Z4M hi]
 cases h1:c.1.testBit j<;>simp_all
theorem ZfQ {c:Cu} (h:emC c=false) {i:Nat} (hi:c.2.testBit i=true):emC (c.1,c.2-2 ^ i)=false:=by
 rw [Z6a] at h ⊢
 refine Nat.eq_of_testBit_eq fun j=>?_
 have:=congrArg (fun z=>Nat.testBit z j) h
 simp only [Nat.testBit_and,Nat.zero_testBit] at this ⊢
 rw [Z4M hi]
 cases h1:c.2.testBit j<;>simp_all
theorem Z6Z {φ:Nat→Bool} (hφ:∀ S T,(∀ i,1≤i→i≤6→S.testBit i=T.testBit i)→φ S=φ T) {S:Nat} {c:Cu} (h1:c.1<256) (h2:c.2<256):leastB φ S c=true↔hoC c S=true∧Prime φ c:=by
 unfold leastB
 rw [Bool.and_eq_true,Bool.and_eq_true,Z81 hφ h1 h2]
 refine and_congr_right fun hh=>?_
 have hb:∀ {x:Nat},x<256→∀ i,x.testBit i=true→i<8:=fun hx i hi=>Nat.lt_of_not_le fun h8=>by
  rw [Nat.testBit_lt_two_pow (Nat.lt_of_lt_of_le hx (Nat.pow_le_pow_right (n:=2) (by decide) h8))] at hi; cases hi
 have e1:∀ i,imp8 φ (c.1-2 ^ i,c.2)=true↔emC (c.1-2 ^ i,c.2)=false∧Impl φ (c.1-2 ^ i,c.2):=fun i=>Z81 hφ (Nat.lt_of_le_of_lt (Nat.sub_le _ _) h1) h2
 have e2:∀ i,imp8 φ (c.1,c.2-2 ^ i)=true↔emC (c.1,c.2-2 ^ i)=false∧Impl φ (c.1,c.2-2 ^ i):=fun i=>Z81 hφ h1 (Nat.lt_of_le_of_lt (Nat.sub_le _ _) h2)
 unfold leaC
 rw [List.all_eq_true]
 constructor
 · rintro ⟨⟨he, hi⟩, hl⟩
   refine⟨(Z6a c).1 he,hi,fun i hb1 him=>?_,fun i hb2 him=>?_⟩
   · have := hl i (List.mem_range.2 (hb h1 i hb1))
     rw [hb1,(e1 i).2 ⟨ZfP he hb1,him⟩] at this
     simp at this
   · have := hl i (List.mem_range.2 (hb h2 i hb2))
     rw [hb2,(e2 i).2 ⟨ZfQ he hb2,him⟩] at this
     simp at this
 · intro hp
   refine⟨⟨(Z6a c).2 hp.dis,hp.imp⟩,fun i _=>?_⟩
   rw [Bool.and_eq_true,Bool.not_eq_true',Bool.not_eq_true',Bool.eq_false_iff,Bool.eq_false_iff]
   refine⟨fun h=>?_,fun h=>?_⟩
   · rw [Bool.and_eq_true, e1] at h
     exact hp.yes i h.1 h.2.2
   · rw [Bool.and_eq_true, e2] at h
     exact hp.no i h.1 h.2.2
theorem Zep {N:Nat} {φ:Nat→Bool} (hd:Dep N φ) {c:Cu} (hp:Prime φ c) {i:Nat} (h:c.1.testBit i=true ∨ c.2.testBit i=true):N.testBit i=true:=by
 refine Classical.byContradiction fun hN=>?_
 have hN:N.testBit i=false:=Bool.eq_false_iff.2 hN
 have hdis:=(Z6a c).2 hp.dis
 rcases h with h|h
 · refine hp.yes i h fun S hS => ?_
   have h1:φ S=φ (S ||| 2 ^ i):=hd _ _ fun j hj=>by
    rw [Nat.testBit_or,Nat.testBit_two_pow,decide_eq_false (fun e=>by subst e; rw [hN] at hj; cases hj),Bool.or_false]
   rw [h1]
   refine hp.imp _ ?_
   rw [Z3E] at hS ⊢
   refine⟨fun j hj=>?_,fun j hj=>?_⟩
   · rw [Nat.testBit_or, Nat.testBit_two_pow]
     by_cases he:i=j
     · rw [decide_eq_true he,Bool.or_true]
     · rw [hS.1 j (by show (c.1-2 ^ i).testBit j=true; rw [Z4M h,hj,decide_eq_false he]; rfl),Bool.true_or]
   · rw [Nat.testBit_or, Nat.testBit_two_pow, hS.2 j hj]
     have he:i≠j:=fun e=>by
      subst e
      have:=congrArg (fun z=>Nat.testBit z i) hp.dis
      simp only [Nat.testBit_and,Nat.zero_testBit,h,Bool.true_and] at this
      rw [this] at hj; cases hj
     rw [decide_eq_false he]; rfl
 · refine hp.no i h fun S hS => ?_
   have h1:φ S=φ (S-(if S.testBit i then 2 ^ i else 0)):=hd _ _ fun j hj=>by
    have he:i≠j:=fun e=>by subst e; rw [hN] at hj; cases hj
    split
    · rename_i hs; rw [Z4M hs,decide_eq_false he,Bool.not_false,Bool.and_true]
    · rfl
   rw [h1]
   refine hp.imp _ ?_
   rw [Z3E] at hS ⊢
   have hb:∀ j,(S-(if S.testBit i then 2 ^ i else 0)).testBit j=(S.testBit j && !decide (i=j)):=fun j=>by
    split
    · rename_i hs; rw [Z4M hs]
    · rename_i hs
      by_cases he:i=j
      · subst he; rw [Nat.sub_zero,Bool.eq_false_iff.2 hs]; rfl
      · rw [decide_eq_false he,Nat.sub_zero]; simp
   refine⟨fun j hj=>?_,fun j hj=>?_⟩
   · have he : i ≠ j := fun e => by
      subst e
      have:=congrArg (fun z=>Nat.testBit z i) hp.dis
      simp only [Nat.testBit_and,Nat.zero_testBit,h,Bool.and_true] at this
      rw [this] at hj; cases hj
     rw [hb,hS.1 j hj,decide_eq_false he]; rfl
   · rw [hb]
     by_cases he:i=j
     · rw [decide_eq_true he]; simp
     · rw [hS.2 j (by show (c.2-2 ^ i).testBit j=true; rw [Z4M h,hj,decide_eq_false he]; rfl),Bool.false_and]
def cutC (S m:Nat):Cu:=(m &&& S,m &&& (255-S))
structure BestC (ok:Cu→Bool) (all S i:Nat) (o:Option Cu):Prop where
 non:o=Option.none→∀ m,m<i→m &&& all=m→ok (cutC S m)=false
 som:∀ c,o=Option.some c→(∃ m,m<i∧m &&& all=m∧c=cutC S m)∧ok c=true∧∀ m,m<i→m &&& all=m→ok (cutC S m)=true→keyC c≤keyC (cutC S m)
theorem BestC.begin (ok:Cu→Bool) (all S:Nat):BestC ok all S 0 Option.none:=⟨fun _ m h=>absurd h (Nat.not_lt_zero m),fun c h=>by cases h⟩
theorem BestC.skip {ok:Cu→Bool} {all S i:Nat} {o:Option Cu} (h:BestC ok all S i o) (hn:i &&& all=i→ok (cutC S i)=true→∃ c,o=Option.some c∧keyC c≤keyC (cutC S i)):BestC ok all S (i+1) o:=by
 refine⟨fun ho m hm ha=>?_,fun c hc=>?_⟩
 · by_cases he : m = i
   · subst he
     refine Bool.eq_false_iff.2 fun hok=>?_
     obtain⟨c,h1,_⟩:=hn ha hok
     rw [ho] at h1; cases h1
   · exact h.non ho m (by omega) ha
 · obtain ⟨⟨m, h1, h2, h3⟩, h4, h5⟩ := h.som c hc
   refine⟨⟨m,by omega,h2,h3⟩,h4,fun m' hm' ha hok=>?_⟩
   by_cases he:m'=i
   · subst he
     obtain⟨c',h6,h7⟩:=hn ha hok
     rw [hc] at h6; cases h6
     exact h7
   · exact h5 m' (by omega) ha hok
theorem BestC.take {ok:Cu→Bool} {all S i:Nat} {o:Option Cu} (h:BestC ok all S i o) (ha:i &&& all=i) (hok:ok (cutC S i)=true) (hb:∀ c,o=Option.some c→keyC (cutC S i)≤keyC c):BestC ok all S (i+1) (Option.some (cutC S i)):=by
 refine⟨fun h=>(by cases h),fun c hc=>?_⟩
 cases hc
 refine⟨⟨i,by omega,ha,rfl⟩,hok,fun m hm hma hmo=>?_⟩
 by_cases he:m=i
 · subst he; exact Nat.le_refl _
 · cases ho : o with
   | none=>rw [h.non ho m (by omega) hma] at hmo; cases hmo
   | some c=>exact Nat.le_trans (hb c ho) ((h.som c ho).2.2 m (by omega) hma hmo)
theorem Zai (f:Fm):(vioL f).Pairwise fun a b=>keyC a≤keyC b:=by
 unfold vioL
 split
 · exact Z37 _
 · exact List.Pairwise.nil
def firstC (l:List Cu) (S:Nat):Option Cu:=l.find? fun c=>hoC c S
theorem ZcB {l:List Cu} (hs:l.Pairwise fun a b=>keyC a≤keyC b) {S:Nat} {c:Cu} (h:firstC l S=some c):c∈l∧hoC c S=true∧∀ d∈l,hoC d S=true→keyC c≤keyC d:=by
 induction l with
 | nil=>cases h
 | cons a l ih =>
   obtain⟨h1,h2⟩:=List.pairwise_cons.1 hs
   unfold firstC at h
   rw [List.find?_cons] at h
   cases ha:hoC a S with
   | true =>
     rw [ha] at h
     cases h
     refine⟨List.mem_cons_self ..,ha,fun d hd _=>?_⟩
     rcases List.mem_cons.1 hd with rfl|hd
     · exact Nat.le_refl _
     · exact h1 d hd
   | false =>
     rw [ha] at h
     obtain⟨h3,h4,h5⟩:=ih h2 h
     refine⟨List.mem_cons_of_mem _ h3,h4,fun d hd hh=>?_⟩
     rcases List.mem_cons.1 hd with rfl|hd
     · rw [ha] at hh; cases hh
     · exact h5 d hd hh
theorem Z2R {l:List Cu} {S:Nat}:firstC l S=none↔soC l S=false:=by
 unfold firstC soC
 rw [List.find?_eq_none,List.any_eq_false]
theorem bit255 {S:Nat} (hS:S<256) (j:Nat):(255-S).testBit j=(decide (j<8) && !S.testBit j):=by
 have:=Nat.testBit_two_pow_sub_succ (n:=8) hS j
 rwa [show (2:Nat) ^ 8-(S+1)=255-S by omega] at this
theorem Zhl {c:Cu} {S:Nat} (hS:S<256) (h1:∀ i,c.1.testBit i=true ∨ c.2.testBit i=true→i<8) (h:hoC c S=true):cutC S (c.1 ||| c.2)=c:=by
 rw [Z3E] at h
 refine Prod.ext (Nat.eq_of_testBit_eq fun j=>?_) (Nat.eq_of_testBit_eq fun j=>?_)
 · show ((c.1 ||| c.2) &&& S).testBit j = _
   rw [Nat.testBit_and,Nat.testBit_or]
   cases ha:c.1.testBit j
   · cases hb : c.2.testBit j
     · rfl
     · rw [h.2 j hb]; rfl
   · rw [h.1 j ha]; rfl
 · show ((c.1 ||| c.2) &&& (255 - S)).testBit j = _
   rw [Nat.testBit_and,Nat.testBit_or,bit255 hS]
   cases hb:c.2.testBit j
   · cases ha : c.1.testBit j
     · rfl
     · rw [h.1 j ha]; simp
   · rw [h.2 j hb,decide_eq_true (h1 j (.inr hb))]; simp
theorem Z5m {x:Nat} (h:∀ i,x.testBit i=true→i<8):x<256:=Nat.lt_pow_two_of_testBit (n:=8) x fun i hi=>Bool.eq_false_iff.2 fun hb=>by have:=h i hb; omega
theorem ZcC {f:Fm} (m:Made6 f) (hm:∀ i,(mentF f).testBit i=true→1≤i∧i≤6) {S:Nat} (hS:S<256) {o:Option Cu} (h:BestC (leastB (vioB f) S) (mentF f) S 256 o):o=firstC (vioL f) S:=by
 have hlow:∀ S T,(∀ i,1≤i→i≤6→S.testBit i=T.testBit i)→vioB f S=vioB f T:=fun S T h=>m.low h
 have hb:∀ {c:Cu},c∈vioL f→∀ i,c.1.testBit i=true ∨ c.2.testBit i=true→(mentF f).testBit i=true:=fun {c} hc i hi=>Zep (Z5j f) ((Z5Z m.check c).1 hc) hi
 have h8:∀ {c:Cu},c∈vioL f→∀ i,c.1.testBit i=true ∨ c.2.testBit i=true→i<8:=fun hc i hi=>by have:=hm i (hb hc i hi); omega
 have key1:∀ {c:Cu},c∈vioL f→hoC c S=true→∃ k,k<256∧k &&& mentF f=k∧c=cutC S k∧leastB (vioB f) S c=true:=fun {c} hc hh=>by
  have hx:=h8 hc
  refine⟨c.1 ||| c.2,Z5m fun i hi=>hx i (by rwa [Nat.testBit_or,Bool.or_eq_true] at hi),Nat.eq_of_testBit_eq fun i=>?_,(Zhl hS hx hh).symm,?_⟩
  · rw [Nat.testBit_and]
    cases hi:(c.1 ||| c.2).testBit i with
    | false=>rfl
    | true=>rw [hb hc i (by rwa [Nat.testBit_or,Bool.or_eq_true] at hi)]; rfl
  · exact (Z6Z hlow (Z5m fun i hi=>hx i (.inl hi)) (Z5m fun i hi=>hx i (.inr hi))).2 ⟨hh,(Z5Z m.check c).1 hc⟩
 have key2:∀ {k:Nat},k<256→k &&& mentF f=k→leastB (vioB f) S (cutC S k)=true→cutC S k∈vioL f∧hoC (cutC S k) S=true:=fun {k} hk hka hl=>by
  have hx:∀ x,(k &&& x)<256:=fun x=>Nat.lt_of_le_of_lt Nat.and_le_left hk
  obtain⟨h1,h2⟩:=(Z6Z hlow (hx S) (hx (255-S))).1 hl
  exact⟨(Z5Z m.check _).2 h2,h1⟩
 cases hf:firstC (vioL f) S with
 | none =>
   have hn:=Z2R.1 hf
   cases o with
   | none=>rfl
   | some c =>
     obtain⟨⟨k,h1,h2,rfl⟩,h4,_⟩:=h.som c rfl
     obtain⟨h5,h6⟩:=key2 h1 h2 h4
     unfold soC at hn
     rw [List.any_eq_false] at hn
     exact absurd h6 (hn _ h5)
 | some d =>
   obtain⟨h1,h2,h3⟩:=ZcB (Zai f) hf
   obtain⟨k,k1,k2,rfl,k4⟩:=key1 h1 h2
   cases o with
   | none=>rw [h.non rfl k k1 k2] at k4; cases k4
   | some c =>
     obtain⟨⟨k',h5,h6,rfl⟩,h7,h8'⟩:=h.som c rfl
     obtain⟨h9,h10⟩:=key2 h5 h6 h7
     have e1:=h8' k k1 k2 k4
     have e2:=h3 _ h9 h10
     exact congrArg some (Zb0 (Z7R f _ h9) (Z7R f _ h1) (by omega))
end Go.Proofs.YtjpkfigmmmngnaaGreatDoor
namespace Go.Proofs.YtjpkfigmmmngnaaGreatDoor
open Go.RowKit
attribute [local irreducible] aw opsK dK
theorem ZH (b:Bool):Spec Tryz.prog 158 [.val (.bool b)] (· = .val (.int .i64 (b2i b))):=by
 refine Z3 ok158 (Nat.le_of_ble_eq_true rfl) fun C hC=>?_
 cases b
 all_goals
  (refine go ?_;repeat' (apply B<;>intro hb<;>try cases hb))
  exact Z1 rfl trivial rfl
theorem Z70 {α:Type} {l:List α} {i:Nat} (hi:i<l.length):l.take (i+1)=l.take i ++ [l[i]]:=by rw [List.take_add_one,List.getElem?_eq_getElem hi]; rfl
theorem Zeq (l:List Int) (v:Int):nums l ++ [[PV.val (.int .i64 v)]]=nums (l ++ [v]):=by simp [nums]
theorem Zer (N:Nat) (ms:List Int):∀ l:List Fm,evL N ms l=l.map (evM N ms)
 | []=>rfl
 | a :: l=>by rw [evL,Zer N ms l,List.map_cons]
set_option maxHeartbeats 8000000 in
theorem Z91 (N:Nat):∀ (d:Nat) (f:Fm),f.depth≤d→Wf f→f.size≤1000→Spec Tryz.prog 127 [.agg (fC .i64 f),.val (.int .u64 (N:Int))] (· = .val (.int .i64 (evM N [] f))):=by
 intro d
 induction d with
 | zero=>intro f hf; rw [Fm.depth_eq] at hf; omega
 | succ d ih =>
   rintro⟨op,n,roles,args⟩ hf hw hsz
   have w:=hw.inv
   have hfd:=(Fm.mk op n roles args).depth_eq
   have hfs:=(Fm.mk op n roles args).size_eq
   rw [show (Fm.mk op n roles args).args=args from rfl] at hfd hfs
   have hlm:=Z1h args
   have hll:(args.map (cellsK .i64)).length=args.length:=by simp
   have hpu:∀ D,innL D (fC .i64 (.mk op n roles args)):=fun D=>Z3z .i64 _ D
   have hpp:=Zg .i64 (.mk op n roles args)
   refine Z3 ok127 (Nat.le_of_ble_eq_true rfl) fun C hC=>?_
   refine Zi ?_
   refine Z9 ?_
   refine Z4 rfl rfl rfl ?_
   repeat' (first|refine Zf (Z15 (k:=5) rfl 1 (by decide)) ?_|(first|refine st ?_|(apply B<;>intro hb<;>try cases hb)))
   refine Z21 hC (fun i=>i≤args.length) (fun i=>args.length-i) 1 (fun i => [(1,.val (.int .u64 (N:Int))),(2,.cp (fC .i64 (.mk op n roles args))),(5,.own 0),(12,.vec (args.map (cellsK .i64)) false),(13,.val (.int .i64 (args.length:Int))),(14,.val (.int .i64 (i:Int)))]) (fun i => [(0,⟨1,nums ((args.take i).map (evM N []))⟩)]) (by omega) 0 (Nat.zero_le _) (fun i=>i) (fun _ _=>rfl) ZV
    ⟨⟨_,rfl,.pure _ trivial⟩,⟨_,rfl,.pure _ hpp⟩,⟨_,rfl,.own 0 (by decide)⟩,⟨_,rfl,.pure _ (Z1N _ _)⟩,⟨_,by rw [← hll]; rfl,.pure _ trivial⟩,⟨_,rfl,.pure _ trivial⟩,trivial⟩ ⟨⟨by omega,_,rfl,.same _ trivial⟩,trivial⟩ ?_
   intro i hi
   have hinc:IntKind.i64.wrap ((i:Int)+1)=((i+1:Nat):Int):=IntWalk.i64_in _ ⟨by omega,by omega⟩
   (repeat'(first|refine Z6 15 ?_|refine Z2 15 ?_|refine st ?_|(apply B<;>intro hb<;>try cases hb)))<;>try refine At.mk ?_
   refine Zj rfl rfl rfl (fun hb=>?_) (fun hb=>?_)
   · have hil : i < args.length := by have := of_decide_eq_true hb; omega
     have hdl:=ZY hil
     have hsl:=Z34 hil
     have htk:=Z70 hil
     obtain⟨wx,tx⟩:=w.arg args[i] (List.getElem_mem hil)
     have ihx:=ih args[i] (by omega) wx (by omega)
     clear hb
     (refine go ?_;repeat' (apply B<;>intro hb<;>try cases hb))
     refine Za (Zk (xs:=args) rfl rfl i rfl hil (Zu _ _)) rfl rfl ?_
     rw [ZA]
     (refine go ?_;repeat' (apply B<;>intro hb<;>try cases hb))
     refine Z5 ihx rfl rfl rfl ⟨Zg _ _,trivial,trivial⟩ rfl ?_
     (repeat'(first|refine Z6 23 ?_|refine Z2 23 ?_|refine st ?_|(apply B<;>intro hb<;>try cases hb)))<;>try refine At.mk ?_
     refine ZN (ZP (k:=0) (m := [[.val (.int .i64 (evM N [] args[i]))]]) (fl:=true) (b:=⟨1,nums ((args.take i).map (evM N []))⟩) rfl rfl rfl (fun c hc=>by rw [List.mem_singleton] at hc; subst hc; rfl) rfl (by
      show ((nums ((args.take i).map (evM N []))).length+1)*8≤_
      rw [Zt,List.length_map,List.length_take];omega)) rfl rfl ?_
     simp only
     rw [Zeq]
     (refine go ?_;repeat' (apply B<;>intro hb<;>try cases hb))
     refine⟨i+1,mv 0 2,hil,by omega,fun j hj=>absurd hj (Nat.not_lt_zero _),ZI rfl,⟨⟨_,rfl,.pure _ trivial⟩,⟨_,rfl,.pure _ hpp⟩,⟨_,rfl,.own 0 (by decide)⟩,⟨_,rfl,.pure _ (Z1N _ _)⟩,⟨_,rfl,.pure _ trivial⟩,⟨_,by show some _=some _; rw [hinc],.pure _ trivial⟩,trivial⟩,⟨⟨by omega,_,rfl,?_⟩,trivial⟩⟩
     rw [htk,List.map_append,List.map_singleton]
     exact .same _ (Z7 _)
   · have hil : i = args.length := by have := of_decide_eq_false hb; omega
     subst hil
     rw [List.take_length]
     clear hb
     (repeat'(first|refine Z6 26 ?_|refine Z2 26 ?_|refine st ?_|(apply B<;>intro hb<;>try cases hb)))<;>try refine At.mk ?_
     refine Zf (Zm (k:=5) rfl rfl (Z7 _)) ?_
     have hev:evM N [] (.mk op n roles args)=opM N [] op n roles (args.map (evM N [])):=by rw [evM,Zer]
     rcases ops16 w.lo w.hi with rfl|rfl|rfl|h4|h4|rfl|rfl|rfl|rfl|rfl|rfl|rfl|rfl|rfl|rfl|rfl
     · (refine go ?_;repeat' (apply B<;>intro hb<;>try cases hb))
       exact Z1 rfl trivial (by rw [hev]; rfl)
     · (refine go ?_;repeat' (apply B<;>intro hb<;>try cases hb))
       exact Z1 rfl trivial (by rw [hev]; rfl)
     · (refine go ?_;repeat' (apply B<;>intro hb<;>try cases hb))
       exact Z1 rfl trivial (by rw [hev]; rfl)
     · subst h4
       have hl:=Zt roles
       have hmost:=w.most
       have hm8:roles.length≤8:=by
        have:(roles.length:Int)≤8:=Int.le_trans hmost (by decide)
        omega
       have hnp:∀ D,innLL D (nums roles):=fun D=>Zh (fun _ h=>h.elim) _ (Z7 _)
       (refine go ?_;repeat' (apply B<;>intro hb<;>try cases hb))
       refine Zr hC (fun i=>i≤roles.length) (fun i=>roles.length-i) 0 (fun i => [(1,.val (.int .u64 (N:Int))),(8,.val (.int .i64 (cntM N (roles.take i)))),(37,.vec (nums roles) false),(38,.val (.int .i64 (roles.length:Int))),(39,.val (.int .i64 (i:Int)))]) (fun _=>[]) (Nat.zero_le _) 0 (Nat.zero_le _)
        ⟨⟨rfl,trivial⟩,⟨rfl,trivial⟩,⟨rfl,hnp _⟩,⟨by rw [← hl]; rfl,trivial⟩,⟨rfl,trivial⟩,trivial⟩ trivial ?_
       intro i hi
       have hinc:IntKind.i64.wrap ((i:Int)+1)=((i+1:Nat):Int):=IntWalk.i64_in _ ⟨by omega,by omega⟩
       (repeat'(first|refine Z6 40 ?_|refine Z2 40 ?_|refine st ?_|(apply B<;>intro hb<;>try cases hb)))<;>try refine At.mk ?_
       refine Zj rfl rfl rfl (fun hb=>?_) (fun hb=>?_)
       · have hil : i < roles.length := by have := of_decide_eq_true hb; omega
         have hrr:=w.rng roles[i] (List.getElem_mem _)
         have c1:=Z4a (N:=N) hil
         have c2:=Z2y N (roles.take i)
         have c3:(roles.take i).length≤roles.length:=by rw [List.length_take]; omega
         clear hb
         (refine go ?_;repeat' (apply B<;>intro hb<;>try cases hb))
         refine Za (Zk (xs:=roles) (g:=fun x => [.val (.int .i64 x)]) rfl rfl i rfl hil rfl) rfl rfl ?_
         generalize roles[i]=r at c1 hrr ⊢
         obtain⟨q,rfl⟩:∃ q:Nat,r=(q:Int):=⟨r.toNat,by omega⟩
         have hq:q<64:=by omega
         rw [Int.toNat_natCast] at c1
         have hbit:b2i (N.testBit q)=((N / 2 ^ q % 2:Nat):Int):=by
          rw [Nat.testBit_eq_decide_div_mod_eq]
          rcases Nat.mod_two_eq_zero_or_one (N / 2 ^ q) with h|h<;>rw [h]<;>rfl
         have hw1:IntKind.i64.wrap ((N / 2 ^ q % 2:Nat):Int)=((N / 2 ^ q % 2:Nat):Int):=IntWalk.i64_in _ ⟨by omega,by omega⟩
         have hw2:IntKind.i64.wrap (cntM N (roles.take i)+((N / 2 ^ q % 2:Nat):Int))=cntM N (roles.take (i+1)):=by
          rw [c1,hbit]
          exact IntWalk.i64_in _ ⟨by omega,by omega⟩
         (repeat'(first|refine Z6 46 ?_|refine Z2 46 ?_|refine st ?_|(apply B<;>intro hb<;>try cases hb)))<;>try refine At.mk ?_
         refine Ze rfl rfl rfl (Z5A N q hq) ?_
         refine Ze rfl rfl rfl (Z5d N q) ?_
         refine Ze rfl rfl rfl hw1 ?_
         refine Ze rfl rfl rfl hw2 ?_
         (refine go ?_;repeat' (apply B<;>intro hb<;>try cases hb))
         exact⟨i+1,hil,by omega,⟨⟨rfl,trivial⟩,⟨rfl,trivial⟩,⟨rfl,hnp _⟩,⟨rfl,trivial⟩,⟨by show some _=some _; rw [hinc],trivial⟩,trivial⟩,trivial⟩
       · have hil : i = roles.length := by have := of_decide_eq_false hb; omega
         subst hil
         rw [List.take_length]
         clear hb
         (refine go ?_;repeat' (apply B<;>intro hb<;>try cases hb))
         exact Z1 rfl trivial (by rw [hev]; rfl)
     · subst h4
       have hl:=Zt roles
       have hmost:=w.most
       have hm8:roles.length≤8:=by
        have:(roles.length:Int)≤8:=Int.le_trans hmost (by decide)
        omega
       have hnp:∀ D,innLL D (nums roles):=fun D=>Zh (fun _ h=>h.elim) _ (Z7 _)
       (refine go ?_;repeat' (apply B<;>intro hb<;>try cases hb))
       refine Zr hC (fun i=>i≤roles.length) (fun i=>roles.length-i) 0 (fun i => [(1,.val (.int .u64 (N:Int))),(8,.val (.int .i64 (cntM N (roles.take i)))),(37,.vec (nums roles) false),(38,.val (.int .i64 (roles.length:Int))),(39,.val (.int .i64 (i:Int)))]) (fun _=>[]) (Nat.zero_le _) 0 (Nat.zero_le _)
        ⟨⟨rfl,trivial⟩,⟨rfl,trivial⟩,⟨rfl,hnp _⟩,⟨by rw [← hl]; rfl,trivial⟩,⟨rfl,trivial⟩,trivial⟩ trivial ?_
       intro i hi
       have hinc:IntKind.i64.wrap ((i:Int)+1)=((i+1:Nat):Int):=IntWalk.i64_in _ ⟨by omega,by omega⟩
       (repeat'(first|refine Z6 40 ?_|refine Z2 40 ?_|refine st ?_|(apply B<;>intro hb<;>try cases hb)))<;>try refine At.mk ?_
       refine Zj rfl rfl rfl (fun hb=>?_) (fun hb=>?_)
       · have hil : i < roles.length := by have := of_decide_eq_true hb; omega
         have hrr:=w.rng roles[i] (List.getElem_mem _)
         have c1:=Z4a (N:=N) hil
         have c2:=Z2y N (roles.take i)
         have c3:(roles.take i).length≤roles.length:=by rw [List.length_take]; omega
         clear hb
         (refine go ?_;repeat' (apply B<;>intro hb<;>try cases hb))
         refine Za (Zk (xs:=roles) (g:=fun x => [.val (.int .i64 x)]) rfl rfl i rfl hil rfl) rfl rfl ?_
         generalize roles[i]=r at c1 hrr ⊢
         obtain⟨q,rfl⟩:∃ q:Nat,r=(q:Int):=⟨r.toNat,by omega⟩
         have hq:q<64:=by omega
         rw [Int.toNat_natCast] at c1
         have hbit:b2i (N.testBit q)=((N / 2 ^ q % 2:Nat):Int):=by
          rw [Nat.testBit_eq_decide_div_mod_eq]
          rcases Nat.mod_two_eq_zero_or_one (N / 2 ^ q) with h|h<;>rw [h]<;>rfl
         have hw1:IntKind.i64.wrap ((N / 2 ^ q % 2:Nat):Int)=((N / 2 ^ q % 2:Nat):Int):=IntWalk.i64_in _ ⟨by omega,by omega⟩
         have hw2:IntKind.i64.wrap (cntM N (roles.take i)+((N / 2 ^ q % 2:Nat):Int))=cntM N (roles.take (i+1)):=by
          rw [c1,hbit]
          exact IntWalk.i64_in _ ⟨by omega,by omega⟩
         (repeat'(first|refine Z6 46 ?_|refine Z2 46 ?_|refine st ?_|(apply B<;>intro hb<;>try cases hb)))<;>try refine At.mk ?_
         refine Ze rfl rfl rfl (Z5A N q hq) ?_
         refine Ze rfl rfl rfl (Z5d N q) ?_
         refine Ze rfl rfl rfl hw1 ?_
         refine Ze rfl rfl rfl hw2 ?_
         (refine go ?_;repeat' (apply B<;>intro hb<;>try cases hb))
         exact⟨i+1,hil,by omega,⟨⟨rfl,trivial⟩,⟨rfl,trivial⟩,⟨rfl,hnp _⟩,⟨rfl,trivial⟩,⟨by show some _=some _; rw [hinc],trivial⟩,trivial⟩,trivial⟩
       · have hil : i = roles.length := by have := of_decide_eq_false hb; omega
         subst hil
         rw [List.take_length]
         clear hb
         (refine go ?_;repeat' (apply B<;>intro hb<;>try cases hb))
         exact Z1 rfl trivial (by rw [hev]; rfl)
     · obtain ⟨r, rfl⟩ := w.role (.inr rfl)
       have hrr:=w.rng r (by simp)
       (refine go ?_;repeat' (apply B<;>intro hb<;>try cases hb))
       exact Z1 rfl trivial (by rw [hev]; show _=PV.val (Value.int .i64 (memM [] r)); unfold memM; rw [if_pos (by show r≥0;omega)]; rfl)
     · obtain ⟨x, rfl⟩ := w.one
       obtain⟨wx,tx⟩:=w.arg x (by simp)
       obtain⟨⟨x1,x2⟩,x3⟩:=Z1j N [] x.depth x (Nat.le_refl _) wx
       rw [Z4b] at hsz
       (refine go ?_;repeat' (apply B<;>intro hb<;>try cases hb))
       have:IntKind.i64.wrap (1-evM N [] x)=1-evM N [] x:=IntWalk.i64_in _ ⟨by omega,by omega⟩
       exact Z1 rfl trivial (by rw [hev]; show PV.val (Value.int .i64 (IntKind.i64.wrap (1-evM N [] x)))=_; rw [this]; rfl)
     all_goals
      obtain⟨x,y,rfl⟩:=w.two (by decide)
      obtain⟨wx,tx⟩:=w.arg x (by simp)
      obtain⟨wy,ty⟩:=w.arg y (by simp)
      rw [Z4c] at hsz
      obtain⟨⟨x1,x2⟩,x3⟩:=Z1j N [] x.depth x (Nat.le_refl _) wx
      obtain⟨⟨y1,y2⟩,y3⟩:=Z1j N [] y.depth y (Nat.le_refl _) wy
      rw [Z7r _ _ _ _ _ _ (by decide)]
      rw [show [x,y].map (evM N []) = [evM N [] x,evM N [] y] from rfl]
      clear hev ih
      generalize evM N [] x=a at *
      generalize evM N [] y=b at *
     · rw [wantM, if_neg (by decide)] at tx ty
       rcases x3 tx with rfl|rfl<;>rcases y3 ty with rfl|rfl
       all_goals
        (repeat'(first|refine Z6 70 ?_|refine Z2 70 ?_|refine st ?_|(apply B<;>intro hb<;>try cases hb)))<;>try refine At.mk ?_
        first
         | refine Z5 (ZH true) rfl rfl rfl ⟨trivial,trivial⟩ rfl ?_
         | refine Z5 (ZH false) rfl rfl rfl ⟨trivial,trivial⟩ rfl ?_
        (refine go ?_;repeat' (apply B<;>intro hb<;>try cases hb))
        exact Z1 rfl trivial rfl
     · rw [wantM, if_neg (by decide)] at tx ty
       rcases x3 tx with rfl|rfl<;>rcases y3 ty with rfl|rfl
       all_goals
        (repeat'(first|refine Z6 83 ?_|refine Z2 83 ?_|refine st ?_|(apply B<;>intro hb<;>try cases hb)))<;>try refine At.mk ?_
        first
         | refine Z5 (ZH true) rfl rfl rfl ⟨trivial,trivial⟩ rfl ?_
         | refine Z5 (ZH false) rfl rfl rfl ⟨trivial,trivial⟩ rfl ?_
        (refine go ?_;repeat' (apply B<;>intro hb<;>try cases hb))
        exact Z1 rfl trivial rfl
     · rw [wantM, if_neg (by decide)] at tx ty
       rcases x3 tx with rfl|rfl<;>rcases y3 ty with rfl|rfl
       all_goals
        (repeat'(first|refine Z6 96 ?_|refine Z2 96 ?_|refine st ?_|(apply B<;>intro hb<;>try cases hb)))<;>try refine At.mk ?_
        first
         | refine Z5 (ZH true) rfl rfl rfl ⟨trivial,trivial⟩ rfl ?_
         | refine Z5 (ZH false) rfl rfl rfl ⟨trivial,trivial⟩ rfl ?_
        (refine go ?_;repeat' (apply B<;>intro hb<;>try cases hb))
        exact Z1 rfl trivial rfl
     · (repeat'(first|refine Z6 105 ?_|refine Z2 105 ?_|refine st ?_|(apply B<;>intro hb<;>try cases hb)))<;>try refine At.mk ?_
       refine Zo rfl rfl rfl ?_
       refine Zq (ZH (decide (a≤b))) rfl rfl rfl ⟨trivial,trivial⟩ ?_
       (refine go ?_;repeat' (apply B<;>intro hb<;>try cases hb))
       exact Z1 rfl trivial rfl
     · (repeat'(first|refine Z6 115 ?_|refine Z2 115 ?_|refine st ?_|(apply B<;>intro hb<;>try cases hb)))<;>try refine At.mk ?_
       refine Zo rfl rfl rfl ?_
       refine Zq (ZH (decide (a<b))) rfl rfl rfl ⟨trivial,trivial⟩ ?_
       (refine go ?_;repeat' (apply B<;>intro hb<;>try cases hb))
       exact Z1 rfl trivial rfl
     · (repeat'(first|refine Z6 125 ?_|refine Z2 125 ?_|refine st ?_|(apply B<;>intro hb<;>try cases hb)))<;>try refine At.mk ?_
       refine Zo rfl rfl rfl ?_
       refine Zq (ZH (decide (a≥b))) rfl rfl rfl ⟨trivial,trivial⟩ ?_
       (refine go ?_;repeat' (apply B<;>intro hb<;>try cases hb))
       exact Z1 rfl trivial rfl
     · (repeat'(first|refine Z6 135 ?_|refine Z2 135 ?_|refine st ?_|(apply B<;>intro hb<;>try cases hb)))<;>try refine At.mk ?_
       refine Zo rfl rfl rfl ?_
       refine Zq (ZH (decide (a>b))) rfl rfl rfl ⟨trivial,trivial⟩ ?_
       (refine go ?_;repeat' (apply B<;>intro hb<;>try cases hb))
       exact Z1 rfl trivial rfl
     · (repeat'(first|refine Z6 145 ?_|refine Z2 145 ?_|refine st ?_|(apply B<;>intro hb<;>try cases hb)))<;>try refine At.mk ?_
       refine Zo rfl rfl rfl ?_
       refine Zq (ZH (a == b)) rfl rfl rfl ⟨trivial,trivial⟩ ?_
       (refine go ?_;repeat' (apply B<;>intro hb<;>try cases hb))
       exact Z1 rfl trivial rfl
     · have : IntKind.i64.wrap (a + b) = a + b := IntWalk.i64_in _ ⟨by omega, by omega⟩
       (refine go ?_;repeat' (apply B<;>intro hb<;>try cases hb))
       exact Z1 rfl trivial (by show PV.val (Value.int .i64 (IntKind.i64.wrap (a+b)))=_; rw [this]; rfl)
theorem Z92 (p:Nat→Bool) (i:Nat):(List.range (i+1)).all p=((List.range i).all p&&p i):=by rw [List.range_succ,List.all_append]; simp
theorem Zes {p:Nat→Bool} {i n:Nat} (hi:i<n) (h:p i=false):(List.range n).all p=false:=by
 rw [List.all_eq_false]
 exact⟨i,List.mem_range.2 hi,by rw [h]; decide⟩
theorem ZfR (f:Fm) (s:Nat):(evM s [] f == 1)=holdB f s:=by unfold holdB; rw [Bool.eq_iff_iff]; simp
set_option maxHeartbeats 4000000 in
theorem Z1T {f:Fm} (m:Made6 f) (c:Cu) (hc:Ok64 c):Spec Tryz.prog 92 [.agg (fC .i64 f),.agg (raC c)] (· = .val (.bool (imp8 (vioB f) c))):=by
 have hms:=m.size
 have hpf:∀ D,innL D (fC .i64 f):=fun D=>Z3z .i64 f D
 have hpc:∀ D,innL D (raC c):=fun D=>Zx (fun _ h=>h.elim) _ (ZX c)
 refine Z3 ok92 (Nat.le_of_ble_eq_true rfl) fun C hC=>?_
 refine Zi ?_
 refine Z9 ?_
 refine Z4 rfl rfl rfl ?_
 refine Z4 rfl rfl rfl ?_
 (refine go ?_;repeat' (apply B<;>intro hb<;>try cases hb))
 refine Z5 (Z8Y c hc) rfl rfl rfl ⟨ZX c,trivial⟩ rfl ?_
 have hI:imp8 (vioB f) c=(!emC c&&(List.range 256).all fun s => !hoC c s||vioB f s):=rfl
 rw [hI]
 cases emC c with
 | true =>
   (refine go ?_;repeat' (apply B<;>intro hb<;>try cases hb))
   exact Z1 rfl trivial rfl
 | false =>
   (refine go ?_;repeat' (apply B<;>intro hb<;>try cases hb))
   refine Zr hC (fun i=>i≤256∧((List.range i).all fun s => !hoC c s||vioB f s)=true) (fun i=>256-i) 0 (fun i => [(2,.cp (fC .i64 f)),(3,.cp (raC c)),(5,.val (.int .u64 (i:Int)))]) (fun _=>[]) (Nat.zero_le _) 0 ⟨Nat.zero_le _,rfl⟩
    ⟨⟨rfl,hpf _⟩,⟨rfl,hpc _⟩,⟨rfl,trivial⟩,trivial⟩ trivial ?_
   rintro i ⟨hi,hall⟩
   have hinc:IntKind.u64.wrap ((i:Int)+1)=((i+1:Nat):Int):=IntWalk.u64_in _ ⟨by omega,by omega⟩
   (repeat'(first|refine Z6 9 ?_|refine Z2 9 ?_|refine st ?_|(apply B<;>intro hb<;>try cases hb)))<;>try refine At.mk ?_
   refine Zj rfl rfl rfl (fun hb=>?_) (fun hb=>?_)
   · have hil : i < 256 := by have := of_decide_eq_true hb; omega
     clear hb
     have hsu:=Z92 (fun s => !hoC c s||vioB f s) i
     have hno:=fun h=>Zes (p:=fun s => !hoC c s||vioB f s) hil h
     rw [hall,Bool.true_and] at hsu
     (refine go ?_;repeat' (apply B<;>intro hb<;>try cases hb))
     refine Z5 (Z4Z c i hc (by omega)) rfl rfl rfl ⟨ZX c,trivial,trivial⟩ rfl ?_
     cases hho:hoC c i with
     | false =>
       rw [hho] at hsu
       (refine go ?_;repeat' (apply B<;>intro hb<;>try cases hb))
       exact⟨i+1,⟨hil,hsu⟩,by omega,⟨⟨rfl,hpf _⟩,⟨rfl,hpc _⟩,⟨by show some _=some _; rw [hinc],trivial⟩,trivial⟩,trivial⟩
     | true =>
       rw [hho] at hsu hno
       (refine go ?_;repeat' (apply B<;>intro hb<;>try cases hb))
       refine Z5 (Z91 i f.depth f (Nat.le_refl _) m.wf (by omega)) rfl rfl rfl ⟨Zg _ _,trivial,trivial⟩ rfl ?_
       refine Zs rfl ?_
       refine Z1q rfl rfl rfl (ZfR f i) ?_
       have hh:=m.hold i
       generalize holdB f i=v at hh
       cases v with
       | true =>
         (refine go ?_;repeat' (apply B<;>intro hb<;>try cases hb))
         have hv:vioB f i=false:=by revert hh; cases vioB f i<;>simp
         exact Z1 rfl trivial (by rw [hno (by rw [hv]; rfl)]; rfl)
       | false =>
         have hv:vioB f i=true:=by revert hh; cases vioB f i<;>simp
         rw [hv] at hsu
         (refine go ?_;repeat' (apply B<;>intro hb<;>try cases hb))
         exact⟨i+1,⟨hil,hsu⟩,by omega,⟨⟨rfl,hpf _⟩,⟨rfl,hpc _⟩,⟨by show some _=some _; rw [hinc],trivial⟩,trivial⟩,trivial⟩
   · have hil : i = 256 := by have := of_decide_eq_false hb; omega
     subst hil
     clear hb
     rw [hall]
     (refine go ?_;repeat' (apply B<;>intro hb<;>try cases hb))
     exact Z1 rfl trivial rfl
theorem Z71 {a r:Nat}:(((a &&& 2 ^ r:Nat):Int) != 0)=a.testBit r:=by
 rw [Bool.eq_iff_iff,bne_iff_ne,Ne,Int.natCast_eq_zero]
 constructor
 · intro h
   refine Classical.byContradiction fun hn=>h (Nat.eq_of_testBit_eq fun i=>?_)
   rw [Nat.testBit_and,Nat.testBit_two_pow,Nat.zero_testBit]
   by_cases hi:r=i
   · subst hi; rw [Bool.eq_false_iff.2 hn]; rfl
   · rw [decide_eq_false hi,Bool.and_false]
 · intro h h0
   have:=congrArg (fun z=>Nat.testBit z r) h0
   simp only [Nat.testBit_and,Nat.testBit_two_pow,Nat.zero_testBit,h,decide_true,Bool.true_and] at this
   cases this
theorem Zet {a r:Nat} (ha:a<18446744073709551616) (h:a.testBit r=true):IntKind.u64.wrap ((a:Int)-((2 ^ r:Nat):Int))=((a-2 ^ r:Nat):Int):=by
 have hle:=Nat.ge_two_pow_of_testBit h
 rw [← Int.ofNat_sub hle]
 exact w64 _ (Nat.lt_of_le_of_lt (Nat.sub_le _ _) ha)
theorem Zeu (φ:Nat→Bool) (c:Cu) (r:Nat):leaC φ c (r+1)=(leaC φ c r&&(!(c.1.testBit r&&imp8 φ (c.1-2 ^ r,c.2)) && !(c.2.testBit r&&imp8 φ (c.1,c.2-2 ^ r)))):=Z92 _ r
theorem ZgW {φ:Nat→Bool} {c:Cu} {r:Nat} (hr:r<8) (h:(!(c.1.testBit r&&imp8 φ (c.1-2 ^ r,c.2)) && !(c.2.testBit r&&imp8 φ (c.1,c.2-2 ^ r)))=false):leaC φ c 8=false:=Zes (p:=fun r => !(c.1.testBit r&&imp8 φ (c.1-2 ^ r,c.2)) && !(c.2.testBit r&&imp8 φ (c.1,c.2-2 ^ r))) hr h
set_option maxHeartbeats 8000000 in
theorem Z93 {f:Fm} (m:Made6 f) (S:Nat) (hS:S<18446744073709551616) (c:Cu) (hc:Ok64 c):Spec Tryz.prog 43 [.agg (fC .i64 f),.val (.int .u64 (S:Int)),.agg (raC c)] (· = .val (.bool (leastB (vioB f) S c))):=by
 have hpf:∀ D,innL D (fC .i64 f):=fun D=>Z3z .i64 f D
 have hpc:∀ D,innL D (raC c):=fun D=>Zx (fun _ h=>h.elim) _ (ZX c)
 refine Z3 ok43 (Nat.le_of_ble_eq_true rfl) fun C hC=>?_
 refine Zi ?_
 refine Z9 ?_
 refine Z4 rfl rfl rfl ?_
 refine Z4 rfl rfl rfl ?_
 (refine go ?_;repeat' (apply B<;>intro hb<;>try cases hb))
 refine Z5 (Z4Z c S hc hS) rfl rfl rfl ⟨ZX c,trivial,trivial⟩ rfl ?_
 have hL:leastB (vioB f) S c=(hoC c S&&(imp8 (vioB f) c&&leaC (vioB f) c 8)):=rfl
 rw [hL]
 cases hoC c S with
 | false =>
   (refine go ?_;repeat' (apply B<;>intro hb<;>try cases hb))
   exact Z1 rfl trivial rfl
 | true =>
 (refine go ?_;repeat' (apply B<;>intro hb<;>try cases hb))
 refine Z5 (Z1T m c hc) rfl rfl rfl ⟨Zg _ _,ZX _,trivial⟩ rfl ?_
 cases imp8 (vioB f) c with
 | false =>
   (refine go ?_;repeat' (apply B<;>intro hb<;>try cases hb))
   exact Z1 rfl trivial rfl
 | true =>
 (refine go ?_;repeat' (apply B<;>intro hb<;>try cases hb))
 refine Zr hC (fun r=>r≤8∧leaC (vioB f) c r=true) (fun r=>8-r) 0 (fun r => [(3,.cp (fC .i64 f)),(5,.cp (raC c)),(7,.val (.int .i64 (r:Int)))]) (fun _=>[]) (Nat.zero_le _) 0 ⟨Nat.zero_le _,rfl⟩
  ⟨⟨rfl,hpf _⟩,⟨rfl,hpc _⟩,⟨rfl,trivial⟩,trivial⟩ trivial ?_
 rintro r ⟨hr,hall⟩
 have hinc:IntKind.i64.wrap ((r:Int)+1)=((r+1:Nat):Int):=IntWalk.i64_in _ ⟨by omega,by omega⟩
 (repeat'(first|refine Z6 20 ?_|refine Z2 20 ?_|refine st ?_|(apply B<;>intro hb<;>try cases hb)))<;>try refine At.mk ?_
 refine Zj rfl rfl rfl (fun hb=>?_) (fun hb=>?_)
 · have hrl : r < 8 := by have := of_decide_eq_true hb; omega
   clear hb
   have hp:=Z1m (show r<64 by omega)
   have hA1:=bits_and_u64_nat c.1 (2 ^ r) hc.1 hp
   have hA2:=bits_and_u64_nat c.2 (2 ^ r) hc.2 hp
   have hB1:=Z71 (a:=c.1) (r:=r)
   have hB2:=Z71 (a:=c.2) (r:=r)
   have hs1:=Zet (a:=c.1) (r:=r) hc.1
   have hs2:=Zet (a:=c.2) (r:=r) hc.2
   have hst:=Zeu (vioB f) c r
   have hno:=ZgW (φ:=vioB f) (c:=c) hrl
   rw [hall,Bool.true_and] at hst
   (repeat'(first|refine Z6 24 ?_|refine Z2 24 ?_|refine st ?_|(apply B<;>intro hb<;>try cases hb)))<;>try refine At.mk ?_
   refine Ze rfl rfl rfl (Zba r (by omega)) ?_
   (repeat'(first|refine Z6 28 ?_|refine Z2 28 ?_|refine st ?_|(apply B<;>intro hb<;>try cases hb)))<;>try refine At.mk ?_
   refine Ze rfl rfl rfl hA1 ?_
   refine Z1q rfl rfl rfl hB1 ?_
   cases h1:c.1.testBit r with
   | false =>
     rw [h1,Bool.false_and,Bool.not_false,Bool.true_and] at hst hno
     (repeat'(first|refine Z6 45 ?_|refine Z2 45 ?_|refine st ?_|(apply B<;>intro hb<;>try cases hb)))<;>try refine At.mk ?_
     refine Zs rfl ?_
     refine Ze rfl rfl rfl hA2 ?_
     refine Zs rfl ?_
     refine Z1q rfl rfl rfl hB2 ?_
     cases h2:c.2.testBit r with
     | false =>
       rw [h2,Bool.false_and] at hst
       (refine go ?_;repeat' (apply B<;>intro hb<;>try cases hb))
       exact⟨r+1,⟨hrl,hst⟩,by omega,⟨⟨rfl,hpf _⟩,⟨rfl,hpc _⟩,⟨by show some _=some _; rw [hinc],trivial⟩,trivial⟩,trivial⟩
     | true =>
       rw [h2,Bool.true_and] at hst hno
       have hS2:=hs2 h2
       (repeat'(first|refine Z6 54 ?_|refine Z2 54 ?_|refine st ?_|(apply B<;>intro hb<;>try cases hb)))<;>try refine At.mk ?_
       refine Zs rfl ?_
       refine Ze rfl rfl rfl hS2 ?_
       (repeat'(first|refine Z6 56 ?_|refine Z2 56 ?_|refine st ?_|(apply B<;>intro hb<;>try cases hb)))<;>try refine At.mk ?_
       refine Zs rfl ?_
       refine Z5 (Z1T m (c.1,c.2-2 ^ r) ⟨hc.1,Nat.lt_of_le_of_lt (Nat.sub_le _ _) hc.2⟩) rfl rfl rfl ⟨Zg _ _,ZX _,trivial⟩ rfl ?_
       generalize imp8 (vioB f) (c.1,c.2-2 ^ r)=v2 at hst hno
       cases v2 with
       | true =>
         (refine go ?_;repeat' (apply B<;>intro hb<;>try cases hb))
         exact Z1 rfl trivial (by rw [hno rfl]; rfl)
       | false =>
         (refine go ?_;repeat' (apply B<;>intro hb<;>try cases hb))
         exact⟨r+1,⟨hrl,hst⟩,by omega,⟨⟨rfl,hpf _⟩,⟨rfl,hpc _⟩,⟨by show some _=some _; rw [hinc],trivial⟩,trivial⟩,trivial⟩
   | true =>
     rw [h1,Bool.true_and] at hst hno
     have hS1:=hs1 h1
     (repeat'(first|refine Z6 35 ?_|refine Z2 35 ?_|refine st ?_|(apply B<;>intro hb<;>try cases hb)))<;>try refine At.mk ?_
     refine Zs rfl ?_
     refine Ze rfl rfl rfl hS1 ?_
     (repeat'(first|refine Z6 39 ?_|refine Z2 39 ?_|refine st ?_|(apply B<;>intro hb<;>try cases hb)))<;>try refine At.mk ?_
     refine Zs rfl ?_
     refine Z5 (Z1T m (c.1-2 ^ r,c.2) ⟨Nat.lt_of_le_of_lt (Nat.sub_le _ _) hc.1,hc.2⟩) rfl rfl rfl ⟨Zg _ _,ZX _,trivial⟩ rfl ?_
     generalize imp8 (vioB f) (c.1-2 ^ r,c.2)=v1 at hst hno
     cases v1 with
     | true =>
       (refine go ?_;repeat' (apply B<;>intro hb<;>try cases hb))
       exact Z1 rfl trivial (by rw [hno rfl]; rfl)
     | false =>
       rw [Bool.not_false,Bool.true_and] at hst hno
       (repeat'(first|refine Z6 45 ?_|refine Z2 45 ?_|refine st ?_|(apply B<;>intro hb<;>try cases hb)))<;>try refine At.mk ?_
       refine Zs rfl ?_
       refine Ze rfl rfl rfl hA2 ?_
       refine Zs rfl ?_
       refine Z1q rfl rfl rfl hB2 ?_
       cases h2:c.2.testBit r with
       | false =>
         rw [h2,Bool.false_and] at hst
         (refine go ?_;repeat' (apply B<;>intro hb<;>try cases hb))
         exact⟨r+1,⟨hrl,hst⟩,by omega,⟨⟨rfl,hpf _⟩,⟨rfl,hpc _⟩,⟨by show some _=some _; rw [hinc],trivial⟩,trivial⟩,trivial⟩
       | true =>
         rw [h2,Bool.true_and] at hst hno
         have hS2:=hs2 h2
         (repeat'(first|refine Z6 54 ?_|refine Z2 54 ?_|refine st ?_|(apply B<;>intro hb<;>try cases hb)))<;>try refine At.mk ?_
         refine Zs rfl ?_
         refine Ze rfl rfl rfl hS2 ?_
         (repeat'(first|refine Z6 56 ?_|refine Z2 56 ?_|refine st ?_|(apply B<;>intro hb<;>try cases hb)))<;>try refine At.mk ?_
         refine Zs rfl ?_
         refine Z5 (Z1T m (c.1,c.2-2 ^ r) ⟨hc.1,Nat.lt_of_le_of_lt (Nat.sub_le _ _) hc.2⟩) rfl rfl rfl ⟨Zg _ _,ZX _,trivial⟩ rfl ?_
         generalize imp8 (vioB f) (c.1,c.2-2 ^ r)=v2 at hst hno
         cases v2 with
         | true =>
           (refine go ?_;repeat' (apply B<;>intro hb<;>try cases hb))
           exact Z1 rfl trivial (by rw [hno rfl]; rfl)
         | false =>
           (refine go ?_;repeat' (apply B<;>intro hb<;>try cases hb))
           exact⟨r+1,⟨hrl,hst⟩,by omega,⟨⟨rfl,hpf _⟩,⟨rfl,hpc _⟩,⟨by show some _=some _; rw [hinc],trivial⟩,trivial⟩,trivial⟩
 · have hrl : r = 8 := by have := of_decide_eq_false hb; omega
   subst hrl
   clear hb
   rw [hall]
   (refine go ?_;repeat' (apply B<;>intro hb<;>try cases hb))
   exact Z1 rfl trivial rfl
theorem Zbm {a b:Cu}:cmpC a b<0↔keyC a<keyC b:=by rw [Zb1]; exact Z4h
def bestP (o:Option Cu):PV:=.tup [.agg (raC (o.getD (0,0))),.val (.bool o.isSome)]
set_option maxHeartbeats 8000000 in
theorem Zev {f:Fm} (m:Made6 f) (hm:∀ i,(mentF f).testBit i=true→1≤i∧i≤6) (S:Nat) (hS:S<256):Spec Tryz.prog 31 [.agg (fC .i64 f),.val (.int .u64 (S:Int))] (· = bestP (firstC (vioL f) S)):=by
 have hms:=m.size
 have hpf:∀ D,innL D (fC .i64 f):=fun D=>Z3z .i64 f D
 have hrp:∀ c D,innL D (raC c):=fun c D=>Zx (fun _ h=>h.elim) _ (ZX c)
 have hml:mentF f<256:=Z5m fun i hi=>by have:=hm i hi; omega
 refine Z3 ok31 (Nat.le_of_ble_eq_true rfl) fun C hC=>?_
 refine Zi ?_
 refine Z9 ?_
 refine Z4 rfl rfl rfl ?_
 (refine go ?_;repeat' (apply B<;>intro hb<;>try cases hb))
 have h255:bits .and .u64 (S:Int) 255=(S:Int):=by
  rw [show (255:Int)=((255:Nat):Int) from rfl,bits_and_u64_nat S 255 (by omega) (by decide)]
  rw [show S &&& 255=S from Nat.and_two_pow_sub_one_of_lt_two_pow (n:=8) hS]
 refine Z5 (Z5X 0 f.depth f (Nat.le_refl _) (by omega) m.wf.1) rfl rfl rfl ⟨Zg _ _,trivial⟩ rfl ?_
 (refine go ?_;repeat' (apply B<;>intro hb<;>try cases hb))
 refine Zr hC (fun (z:Nat×Option Cu)=>z.1≤256∧BestC (leastB (vioB f) S) (mentF f) S z.1 z.2) (fun z=>256-z.1) 2 (fun z => [(1,.val (.int .u64 (S:Int))),(2,.cp (fC .i64 f)),(4,.ptr 0 0 0),(6,.ptr 1 0 0),(7,.val (.bool z.2.isSome)),(8,.val (.int .u64 (mentF f:Nat))),(9,.val (.int .u64 (z.1:Int)))])
  (fun z => [(0,⟨2,[raC (0,0)]⟩),(1,⟨2,[raC (z.2.getD (0,0))]⟩)]) (Nat.zero_le _) (0,none) ⟨Nat.zero_le _,BestC.begin _ _ _⟩
  ⟨⟨rfl,trivial⟩,⟨rfl,hpf _⟩,⟨rfl,show (0:Nat)<2 by decide⟩,⟨rfl,show (1:Nat)<2 by decide⟩,⟨rfl,trivial⟩,⟨rfl,trivial⟩,⟨rfl,trivial⟩,trivial⟩
  ⟨⟨by decide,rfl,⟨hrp _ _,trivial⟩⟩,⟨by decide,rfl,⟨hrp _ _,trivial⟩⟩,trivial⟩ ?_
 rintro⟨i,o⟩ ⟨hi,hbest⟩
 dsimp only at hi hbest
 have hinc:IntKind.u64.wrap ((i:Int)+1)=((i+1:Nat):Int):=IntWalk.u64_in _ ⟨by omega,by omega⟩
 (repeat'(first|refine Z6 15 ?_|refine Z2 15 ?_|refine st ?_|(apply B<;>intro hb<;>try cases hb)))<;>try refine At.mk ?_
 refine Zj rfl rfl rfl (fun hb=>?_) (fun hb=>?_)
 · have hil : i < 256 := by have := of_decide_eq_true hb; omega
   clear hb
   have hA:=bits_and_u64_nat i (mentF f) (by omega) (by omega)
   have hA1:=bits_and_u64_nat i S (by omega) (by omega)
   have hA2:=bits_and_u64_nat i (255-S) (by omega) (by omega)
   have hsb:IntKind.u64.wrap (255-(S:Int))=((255-S:Nat):Int):=by
    rw [show (255:Int)-(S:Int)=((255-S:Nat):Int) by omega]
    exact w64 _ (by omega)
   have hne:(((i &&& mentF f:Nat):Int) != (i:Int)) = !decide (i &&& mentF f=i):=by
    rw [Bool.eq_iff_iff,bne_iff_ne]; simp; omega
   (repeat'(first|refine Z6 20 ?_|refine Z2 20 ?_|refine st ?_|(apply B<;>intro hb<;>try cases hb)))<;>try refine At.mk ?_
   refine Ze rfl rfl rfl hA ?_
   (repeat'(first|refine Z6 22 ?_|refine Z2 22 ?_|refine st ?_|(apply B<;>intro hb<;>try cases hb)))<;>try refine At.mk ?_
   refine Z1q rfl rfl rfl hne ?_
   by_cases hal:i &&& mentF f=i
   · rw [decide_eq_true hal]
     have hc64:Ok64 (cutC S i):=⟨Nat.lt_of_le_of_lt Nat.and_le_left (by omega),Nat.lt_of_le_of_lt Nat.and_le_left (by omega)⟩
     (repeat'(first|refine Z6 25 ?_|refine Z2 25 ?_|refine st ?_|(apply B<;>intro hb<;>try cases hb)))<;>try refine At.mk ?_
     refine Ze rfl rfl rfl hA1 ?_
     (repeat'(first|refine Z6 28 ?_|refine Z2 28 ?_|refine st ?_|(apply B<;>intro hb<;>try cases hb)))<;>try refine At.mk ?_
     refine Ze rfl rfl rfl h255 ?_
     refine Ze rfl rfl rfl hsb ?_
     refine Ze rfl rfl rfl hA2 ?_
     (refine go ?_;repeat' (apply B<;>intro hb<;>try cases hb))
     refine Z5 (Z93 m S (by omega) (cutC S i) hc64) rfl rfl rfl ⟨Zg _ _,trivial,ZX _,trivial⟩ rfl ?_
     cases hle:leastB (vioB f) S (cutC S i) with
     | false =>
       have hnx:=hbest.skip (fun _ h=>by rw [hle] at h; cases h)
       (refine go ?_;repeat' (apply B<;>intro hb<;>try cases hb))
       exact⟨(i+1,o),⟨hil,hnx⟩,by show 256-(i+1)<256-i; omega,⟨⟨rfl,trivial⟩,⟨rfl,hpf _⟩,⟨rfl,show (0:Nat)<2 by decide⟩,⟨rfl,show (1:Nat)<2 by decide⟩,⟨rfl,trivial⟩,⟨rfl,trivial⟩,⟨by show some _=some _; rw [hinc],trivial⟩,trivial⟩,⟨⟨by decide,rfl,⟨hrp _ _,trivial⟩⟩,⟨by decide,rfl,⟨hrp _ _,trivial⟩⟩,trivial⟩⟩
     | true =>
       cases o with
       | none =>
         have hnx:=hbest.take hal hle (fun c h=>by cases h)
         (refine go ?_;repeat' (apply B<;>intro hb<;>try cases hb))
         exact⟨(i+1,some (cutC S i)),⟨hil,hnx⟩,by show 256-(i+1)<256-i; omega,⟨⟨rfl,trivial⟩,⟨rfl,hpf _⟩,⟨rfl,show (0:Nat)<2 by decide⟩,⟨rfl,show (1:Nat)<2 by decide⟩,⟨rfl,trivial⟩,⟨rfl,trivial⟩,⟨by show some _=some _; rw [hinc],trivial⟩,trivial⟩,⟨⟨by decide,rfl,⟨hrp _ _,trivial⟩⟩,⟨by decide,rfl,⟨hrp _ _,trivial⟩⟩,trivial⟩⟩
       | some b =>
         have hb64:Ok64 b:=by
          obtain⟨⟨k,_,_,rfl⟩,_⟩:=hbest.som b rfl
          exact⟨Nat.lt_of_le_of_lt Nat.and_le_right (by omega),Nat.lt_of_le_of_lt Nat.and_le_right (by omega)⟩
         (refine go ?_;repeat' (apply B<;>intro hb<;>try cases hb))
         refine Z5 (Z6t (cutC S i) b hc64 hb64) rfl rfl rfl ⟨ZX _,ZX _,trivial⟩ rfl ?_
         refine Zs rfl ?_
         refine Zj rfl rfl rfl (fun hb=>?_) (fun hb=>?_)
         · have hlt := Zbm.1 (of_decide_eq_true hb)
           have hnx:=hbest.take hal hle (fun c h=>by cases h;omega)
           clear hb
           (refine go ?_;repeat' (apply B<;>intro hb<;>try cases hb))
           exact⟨(i+1,some (cutC S i)),⟨hil,hnx⟩,by show 256-(i+1)<256-i; omega,⟨⟨rfl,trivial⟩,⟨rfl,hpf _⟩,⟨rfl,show (0:Nat)<2 by decide⟩,⟨rfl,show (1:Nat)<2 by decide⟩,⟨rfl,trivial⟩,⟨rfl,trivial⟩,⟨by show some _=some _; rw [hinc],trivial⟩,trivial⟩,⟨⟨by decide,rfl,⟨hrp _ _,trivial⟩⟩,⟨by decide,rfl,⟨hrp _ _,trivial⟩⟩,trivial⟩⟩
         · have hge : ¬ keyC (cutC S i) < keyC b := fun h => of_decide_eq_false hb (Zbm.2 h)
           have hnx:=hbest.skip (fun _ _=>⟨b,rfl,by omega⟩)
           clear hb
           (refine go ?_;repeat' (apply B<;>intro hb<;>try cases hb))
           exact⟨(i+1,some b),⟨hil,hnx⟩,by show 256-(i+1)<256-i; omega,⟨⟨rfl,trivial⟩,⟨rfl,hpf _⟩,⟨rfl,show (0:Nat)<2 by decide⟩,⟨rfl,show (1:Nat)<2 by decide⟩,⟨rfl,trivial⟩,⟨rfl,trivial⟩,⟨by show some _=some _; rw [hinc],trivial⟩,trivial⟩,⟨⟨by decide,rfl,⟨hrp _ _,trivial⟩⟩,⟨by decide,rfl,⟨hrp _ _,trivial⟩⟩,trivial⟩⟩
   · rw [decide_eq_false hal]
     have hnx:=hbest.skip (fun h=>absurd h hal)
     (refine go ?_;repeat' (apply B<;>intro hb<;>try cases hb))
     exact⟨(i+1,o),⟨hil,hnx⟩,by show 256-(i+1)<256-i; omega,⟨⟨rfl,trivial⟩,⟨rfl,hpf _⟩,⟨rfl,show (0:Nat)<2 by decide⟩,⟨rfl,show (1:Nat)<2 by decide⟩,⟨rfl,trivial⟩,⟨rfl,trivial⟩,⟨by show some _=some _; rw [hinc],trivial⟩,trivial⟩,⟨⟨by decide,rfl,⟨hrp _ _,trivial⟩⟩,⟨by decide,rfl,⟨hrp _ _,trivial⟩⟩,trivial⟩⟩
 · have hil : i = 256 := by have := of_decide_eq_false hb; omega
   subst hil
   clear hb
   rw [ZcC m hm hS hbest]
   cases firstC (vioL f) S
   all_goals
    (refine go ?_;repeat' (apply B<;>intro hb<;>try cases hb))
    exact Z1 rfl ⟨ZX _,trivial,trivial⟩ rfl
end Go.Proofs.YtjpkfigmmmngnaaGreatDoor
namespace Go.Proofs.YtjpkfigmmmngnaaGreatDoor
open Go.RowKit
def smAll (l:List Nat) (good:Nat→Bool):Nat→List Nat
 | 0 => []
 | m+1=>smStep good (smAll l good m) (subM l m)
theorem Z72 {l:List Nat} (hl:l.Nodup) (good:Nat→Bool):∀ m,m≤2 ^ l.length→Mins (tried l m) good (smAll l good m)
 | 0,_=>(Mins.begin good).congr fun s=>⟨False.elim,fun ⟨j,h,_⟩=>absurd h (Nat.not_lt_zero j)⟩
 | m+1,h=>((Z72 hl good m (by omega)).step (Zen hl (by omega))).congr fun s=>(ZcA l m s).symm
theorem Zew {E:Nat} (hE:E<18446744073709551616) (good:Nat→Bool):Mins (fun s=>s ||| E=E) good (smAll (mem E) good (2 ^ (mem E).length)) :=
 (Z72 (Z5R E) good _ (Nat.le_refl _)).congr fun s=>Zeo hE s
theorem ZcD (good:Nat→Bool) (out:List Nat) (s:Nat):(smStep good out s).length≤out.length+1:=by
 unfold smStep
 split
 · split<;>simp
 · split
   · simp
   · split
     · split<;>simp
     · simp
theorem Z94 (l:List Nat) (good:Nat→Bool):∀ m,(smAll l good m).length≤m
 | 0=>Nat.le_refl _
 | m+1=>Nat.le_trans (ZcD good _ _) (Nat.succ_le_succ (Z94 l good m))
theorem Zex {E m:Nat} (hE:E<18446744073709551616):subM (mem E) m<18446744073709551616:=Zgh (n:=18446744073709551616) (fr:=E) (orSub.2 fun i hi=>by
 obtain⟨k,hk,h1,_⟩:=(Z4w _ _ _).1 hi
 exact (Z1s hE).1 (h1▸List.getElem_mem hk)) hE
theorem Z82 {E:Nat} (hE:E<18446744073709551616) (good:Nat→Bool):∀ m,∀ s∈smAll (mem E) good m,s<18446744073709551616
 | 0,s,h=>by cases h
 | m + 1, s, h => by
   have ih:=Z82 hE good m
   have hx:∀ x∈smStep good (smAll (mem E) good m) (subM (mem E) m),x∈smAll (mem E) good m ∨ x=subM (mem E) m:=fun x hx=>by
    unfold smStep at hx
    split at hx
    · split at hx
      · exact .inr (List.mem_singleton.1 hx)
      · cases hx
    · rename_i a r heq
      rw [heq]
      split at hx
      · exact .inl hx
      · split at hx
        · split at hx
          · exact .inr (List.mem_singleton.1 hx)
          · rcases List.mem_append.1 hx with hx | hx
            · exact .inl hx
            · exact .inr (List.mem_singleton.1 hx)
        · exact .inl hx
   rcases hx s h with h1|rfl
   · exact ih s h1
   · exact Zex hE
noncomputable def gdR (f:Fm) (l:List Pr) (E s:Nat):Bool:=holdB f (clo l (minusN E s))
noncomputable def gdA (f:Fm) (l:List Pr) (E s:Nat):Bool:=holdB f (clo l (E ||| s))
theorem Z4N {a:Nat} (b:Nat) (ha:a<18446744073709551616):minusN a b<18446744073709551616:=Nat.lt_of_le_of_lt Nat.and_le_left ha
section
variable {f:Fm} (m:Made6 f) {l:List Pr} {E:Nat} (hE:E<18446744073709551616) (hmo:monoB (vioL f)=true) (h0:(0,0) ∉ vioL f)
include m hmo
end
end Go.Proofs.YtjpkfigmmmngnaaGreatDoor
namespace Go.Proofs.YtjpkfigmmmngnaaGreatDoor
open Go.RowKit
attribute [local irreducible] aw opsK dK
noncomputable def hierP (l:List Pr) (S:List Nat):PV:=.cp [.cp (ordC l S)]
theorem ZJ (l:List Pr) (S:List Nat):(hierP l S).pure:=⟨Z1l l S,trivial⟩
theorem Z51:Spec Tryz.prog 47 [] fun r=>∃ S,r=hierP [] S:=by
 refine Z3 ok47 (Nat.le_of_ble_eq_true rfl) fun C hC=>?_
 (refine go ?_;repeat' (apply B<;>intro hb<;>try cases hb))
 refine ZD rfl rfl (Z8X [] true (fun p hp=>by cases hp) List.nodup_nil ⟨fun _=>0,fun p hp=>by cases hp⟩ (by decide)) ⟨trivial,trivial,trivial⟩ rfl ?_
 rintro r ⟨l',o,h1,h2,⟨S',rfl⟩,rfl⟩
 obtain rfl:=List.Perm.eq_nil h1
 (repeat'(first|refine Z6 9 ?_|refine Z2 9 ?_|refine st ?_|(apply B<;>intro hb<;>try cases hb)))<;>try refine At.mk ?_
 refine Z4 rfl rfl rfl ?_
 (refine go ?_;repeat' (apply B<;>intro hb<;>try cases hb))
 exact Z1 rfl (ZJ [] S') ⟨S',rfl⟩
theorem Z73 (a:Int):Spec Tryz.prog 102 [.val (.int .i64 a)] (· = .val (.bool (decide (1≤a)&&decide (a≤63)))):=by
 refine Z3 ok102 (Nat.le_of_ble_eq_true rfl) fun C hC=>?_
 (refine go ?_;repeat' (apply B<;>intro hb<;>try cases hb))
 all_goals exact Z1 rfl trivial (by simp_all<;>omega)
theorem Z95 (a:Nat) (h1:1≤a) (h2:a<64):Spec Tryz.prog 102 [.val (.int .i64 (a:Int))] (· = .val (.bool true)):=by
 have:=Z73 (a:Int)
 rwa [decide_eq_true (show (1:Int)≤a by omega),decide_eq_true (show (a:Int)≤63 by omega)] at this
set_option maxHeartbeats 1000000 in
theorem Z96 (l:List Pr) (S:List Nat) (a b:Nat) (ha:1≤a∧a<64) (hb:1≤b∧b<64) (hab:a≠b) (hl:Small l) (hn:l.Nodup) (hno:(a,b) ∉ l) (hacy:Acy (l ++ [(a,b)])) (hlen:l.length≤100000):Spec Tryz.prog 53 [hierP l S,.val (.int .i64 (a:Int)),.val (.int .i64 (b:Int))] fun r=>∃ l' S',l'.Perm (l ++ [(a,b)])∧SortedP l'∧r=.tup [hierP l' S',.val (.int .i64 0)]:=by
 have hne:((a:Int) == (b:Int))=false:=by rw [beq_eq_false_iff_ne]; omega
 refine Z3 ok53 (Nat.le_of_ble_eq_true rfl) fun C hC=>?_
 (refine go ?_;repeat' (apply B<;>intro hb<;>try cases hb))
 refine Z5 (Z95 a ha.1 ha.2) rfl rfl rfl ⟨trivial,trivial⟩ rfl ?_
 (refine go ?_;repeat' (apply B<;>intro hb<;>try cases hb))
 refine Z5 (Z95 b hb.1 hb.2) rfl rfl rfl ⟨trivial,trivial⟩ rfl ?_
 (repeat'(first|refine Z6 25 ?_|refine Z2 25 ?_|refine st ?_|(apply B<;>intro hb<;>try cases hb)))<;>try refine At.mk ?_
 refine Zs rfl ?_
 refine Za (ZU rfl hne) rfl rfl ?_
 (refine go ?_;repeat' (apply B<;>intro hb<;>try cases hb))
 refine ZD rfl rfl (Zcz l S a b ha.2 hb.2 hl hn hno hacy hlen) ⟨Z1l l S,trivial,trivial,trivial⟩ rfl ?_
 rintro r ⟨l',o,h1,h2,⟨S',rfl⟩,rfl⟩
 (repeat'(first|refine Z6 42 ?_|refine Z2 42 ?_|refine st ?_|(apply B<;>intro hb<;>try cases hb)))<;>try refine At.mk ?_
 refine Z4 rfl rfl rfl ?_
 (refine go ?_;repeat' (apply B<;>intro hb<;>try cases hb))
 exact Z1 rfl ⟨ZJ l' S',trivial,trivial⟩ ⟨l',S',h1,h2,rfl⟩
theorem Z97 (l:List Pr) (S:List Nat) (r:Int):Spec Tryz.prog 61 [hierP l S,.val (.int .i64 r)] (· = setN (if 1≤r∧r≤63 then jun l r.toNat else 0)):=by
 refine Z3 ok61 (Nat.le_of_ble_eq_true rfl) fun C hC=>?_
 (refine go ?_;repeat' (apply B<;>intro hb<;>try cases hb))
 refine Z5 (Z73 r) rfl rfl rfl ⟨trivial,trivial⟩ rfl ?_
 by_cases h:1≤r∧r≤63
 · rw [if_pos h, decide_eq_true h.1, decide_eq_true h.2]
   obtain⟨k,rfl⟩:∃ k:Nat,r=(k:Int):=⟨r.toNat,by omega⟩
   have hk:k<64:=by omega
   have h1:=Zah l S (k:Int)
   rw [if_pos ⟨by omega,by omega⟩] at h1
   have h2:=Z36 (bel l k) (Nat.le_trans (Z27 (Ze5 l k)) (by decide)) (k:Int)
   rw [withN,if_pos ⟨by omega,by omega⟩] at h2
   (refine go ?_;repeat' (apply B<;>intro hb<;>try cases hb))
   refine Z5 h1 rfl rfl rfl ⟨Z1l l S,trivial,trivial⟩ rfl ?_
   (refine go ?_;repeat' (apply B<;>intro hb<;>try cases hb))
   refine Z5 h2 rfl rfl rfl ⟨Z0 _,trivial,trivial⟩ rfl ?_
   (refine go ?_;repeat' (apply B<;>intro hb<;>try cases hb))
   exact Z1 rfl (Z0 _) rfl
 · rw [if_neg h]
   have h2:(decide (1≤r)&&decide (r≤63))=false:=by
    rw [Bool.and_eq_false_iff]
    by_cases h1:1≤r
    · exact .inr (decide_eq_false fun h3=>h ⟨h1,h3⟩)
    · exact .inl (decide_eq_false h1)
   rw [h2]
   (refine go ?_;repeat' (apply B<;>intro hb<;>try cases hb))
   refine Z3H rfl (Z0 0 |> fun h=>by rw [Z2d] at h; exact h) ?_
   rw [Z2d]; rfl
noncomputable def cloL (l:List Pr) (rs:List Nat):Nat:=rs.foldl (fun o r=>if 1≤r then o ||| jun l r else o) 0
theorem Zey (l:List Pr) (rs:List Nat) (r:Nat):cloL l (rs ++ [r])=if 1≤r then cloL l rs ||| jun l r else cloL l rs:=by simp [cloL,List.foldl_append]
set_option maxHeartbeats 2000000 in
theorem Z52 (l:List Pr) (S:List Nat) (s:Nat) (hs:s<18446744073709551616):Spec Tryz.prog 19 [hierP l S,setN s] (· = setN (clo l s)):=by
 refine Z3 ok19 (Nat.le_of_ble_eq_true rfl) fun C hC=>?_
 refine Zi ?_
 refine Z9 ?_
 refine Z4 rfl rfl rfl ?_
 refine Z4 rfl rfl rfl ?_
 (refine go ?_;repeat' (apply B<;>intro hb<;>try cases hb))
 refine Z5 (Z28 s) rfl rfl rfl ⟨Z0 _,trivial⟩ rfl ?_
 (refine go ?_;repeat' (apply B<;>intro hb<;>try cases hb))
 have hhp:=ZJ l S
 refine Z3o (X:=List Nat) hC (caps := [.cp [.vec (words (digs s)) false]]) [(2,.cp [hierP l S]),(4,.ptr 0 0 0),(5,.ptr 1 0 0),(8,.fn 70 [.cp [.vec (words (digs s)) false]])]
  (fun z => [(0,⟨1,[[.vec [] true]]⟩),(1,⟨1,[[.vec (words (digs (cloL l z))) false]]⟩)]) rfl ⟨⟨Zc _,trivial⟩,trivial⟩ (Z2L s hs) (fun _=>rfl)
  (fun ex pre z=>ex=.normal∧z=pre.map (·.val)) 2 (by decide) [] ⟨rfl,rfl⟩
  (Z41 (EnvQ.mem (ρ := fun i => i) (m := 2) (L := [(2, .cp [hierP l S]), (4, .ptr 0 0 0), (5, .ptr 1 0 0), (8, .fn 70 [.cp [.vec (words (digs s)) false]])]) ⟨⟨_, rfl, .pure _ ⟨hhp, trivial⟩⟩, ⟨_, rfl, .ptr (ρ := fun i => i) 0 0 0 (by decide)⟩, ⟨_, rfl, .ptr (ρ := fun i => i) 1 0 0 (by decide)⟩, ⟨_, rfl, .pure _ ⟨⟨Zc _, trivial⟩, trivial⟩⟩, trivial⟩)
    (HeapQ.mem (ρ:=fun i=>i) (m:=2) (L := [(0,⟨1,[[.vec [] true]]⟩),(1,⟨1,[[.vec (words (digs (cloL l []))) false]]⟩)]) ⟨⟨by decide,_,rfl,.same _ ⟨⟨trivial,trivial⟩,trivial⟩⟩,⟨by decide,⟨1,[[.vec [] true]]⟩,rfl,by rw [show cloL l []=0 from rfl,Zv]; exact RenB.single (ρ:=fun i=>i) (l0 := [.vec [] true]) (l := [.vec [] false]) (show RenLs _ _ [_] [_] from ⟨.low (.vec [] true) trivial,trivial⟩) rfl⟩,trivial⟩) hC (by decide))
  (fun z q hq=>by simp at hq; rcases hq with rfl|rfl<;>exact Nat.zero_lt_succ _) _ (fun x=>rfl) ?_ ?_ ?_
 · rintro C2 hC2 pre x z ⟨-, rfl⟩ hlen
   have hx64:=Z1G x.2
   have hj:=Z97 l S (x.val:Int)
   have hcz:cloL l (pre.map (·.val))<18446744073709551616:=by
    unfold cloL
    exact Zei l _ 0 (fun r hr=>by obtain⟨y,_,rfl⟩:=List.mem_map.1 hr; exact Z1G y.2) (by decide)
   have hstep:=Zey l (pre.map (·.val)) x.val
   have hnew:cloL l (pre.map (·.val)) ||| (if 1≤(x.val:Int)∧(x.val:Int)≤63 then jun l (x.val:Int).toNat else 0)=cloL l (pre.map (·.val) ++ [x.val]):=by
    rw [hstep]
    by_cases h1:1≤x.val
    · rw [if_pos h1,if_pos ⟨by omega,by omega⟩]; rfl
    · rw [if_neg h1,if_neg (by omega),Nat.or_zero]
   have hj64:(if 1≤(x.val:Int)∧(x.val:Int)≤63 then jun l (x.val:Int).toNat else 0)<18446744073709551616:=by
    split
    · exact Zgg l hx64
    · decide
   (refine go ?_;repeat' (apply B<;>intro hb<;>try cases hb))
   refine Zq hj rfl rfl rfl ⟨hhp,trivial,trivial⟩ ?_
   refine Zq (Z3q _ _ hcz hj64) rfl rfl rfl ⟨Z0 _,Z0 _,trivial⟩ ?_
   rw [hnew]
   (refine go ?_;repeat' (apply B<;>intro hb<;>try cases hb))
   exact⟨.inl rfl,pre.map (·.val) ++ [x.val],fun i=>i,⟨rfl,by rw [List.map_append]; rfl⟩,fun i hi=>rfl,ZV,
    ⟨⟨_,rfl,.pure _ ⟨hhp,trivial⟩⟩,⟨_,rfl,.ptr (ρ:=fun i=>i) 0 0 0 (by decide)⟩,⟨_,rfl,.ptr (ρ:=fun i=>i) 1 0 0 (by decide)⟩,⟨_,rfl,.pure _ ⟨⟨Zc _,trivial⟩,trivial⟩⟩,trivial⟩,
    ⟨⟨by decide,_,rfl,.same _ ⟨⟨trivial,trivial⟩,trivial⟩⟩,⟨by decide,_,rfl,.same _ ⟨⟨Zc _,trivial⟩,trivial⟩⟩,trivial⟩⟩
 · rintro xs z hxs ⟨-, rfl⟩
   rw [hxs]
   (refine go ?_;repeat' (apply B<;>intro hb<;>try cases hb))
   exact Z1 rfl (Z0 _) (by rw [Zeh]; rfl)
 · rintro ex pre z - ⟨rfl,_⟩ (h|⟨id,h⟩)<;>cases h
theorem Z6b (N:Nat) (hN:N<18446744073709551616) (i:Nat):Spec Tryz.prog 72 [setN N,.val (.int .i64 (i:Int))] (· = .val (.bool (N.testBit i))):=by
 have:=Z1Y N hN (i:Int)
 rwa [decide_eq_true (show (0:Int)≤(i:Int) by omega),Bool.true_and,Int.toNat_natCast] at this
set_option maxHeartbeats 2000000 in
theorem ZcE (k:Nat) (h1:1≤k) (h2:k≤64):Spec Tryz.prog 46 [.val (.int .i64 (k:Int))] (· = setN (2 ^ k-1)):=by
 refine Z3 ok46 (Nat.le_of_ble_eq_true rfl) fun C hC=>?_
 have hq:IntKind.i64.wrap (((k+63:Nat):Int).tdiv 64)=((1:Nat):Int):=by
  rw [IntWalk.i64_quo _ _ ⟨by omega,by omega,by omega⟩]; omega
 (repeat'(first|refine Z6 6 ?_|refine Z2 6 ?_|refine st ?_|(apply B<;>intro hb<;>try cases hb)))<;>try refine At.mk ?_
 refine Ze rfl rfl rfl (v:=(k:Int)) (by split<;>omega) ?_
 refine Ze rfl rfl rfl (v:=(k:Int)) (by split<;>omega) ?_
 (repeat'(first|refine Z6 9 ?_|refine Z2 9 ?_|refine st ?_|(apply B<;>intro hb<;>try cases hb)))<;>try refine At.mk ?_
 refine Ze rfl rfl rfl (show IntKind.i64.wrap ((k:Int)+63)=((k+63:Nat):Int) from IntWalk.i64_in _ ⟨by omega,by omega⟩) ?_
 (repeat'(first|refine Z6 10 ?_|refine Z2 10 ?_|refine st ?_|(apply B<;>intro hb<;>try cases hb)))<;>try refine At.mk ?_
 refine Ze rfl rfl rfl hq ?_
 (refine go ?_;repeat' (apply B<;>intro hb<;>try cases hb))
 refine Z10 1 ?_
 (repeat'(first|refine Z6 22 ?_|refine Z2 22 ?_|refine st ?_|(apply B<;>intro hb<;>try cases hb)))<;>try refine At.mk ?_
 by_cases hk:k=64
 · subst hk
   repeat' (first|refine Zf (Zm (k:=33) rfl rfl (ZM rfl)) ?_|(first|refine st ?_|(apply B<;>intro hb<;>try cases hb)))
   exact Z1 rfl (Z2q rfl) (by rw [Z3p (by decide) (by decide)]; rfl)
 · have hr : (k : Int).tmod 64 = ((k : Nat) : Int) := by rw [Int.tmod_eq_emod_of_nonneg (by omega)]; omega
   refine Ze rfl rfl rfl hr ?_
   refine Za (ZU (v:=true) rfl (by simp;omega)) rfl rfl ?_
   (repeat'(first|refine Z6 29 ?_|refine Z2 29 ?_|refine st ?_|(apply B<;>intro hb<;>try cases hb)))<;>try refine At.mk ?_
   refine Ze rfl rfl rfl hr ?_
   refine Za (Zf6 rfl rfl (by omega) (v:=((2 ^ k:Nat):Int)) (by
    rw [show min ((k:Int)).toNat IntKind.u64.bits=k by simp [IntKind.bits]; omega]
    have hp:=Z1m (show k<64 by omega)
    rw [Int.one_mul,show (2:Int) ^ k=((2 ^ k:Nat):Int) by simp]
    exact IntWalk.u64_in _ ⟨Int.natCast_nonneg _,Int.ofNat_le.2 (show _≤18446744073709551615 by omega)⟩)) rfl rfl ?_
   refine Ze rfl rfl rfl (v:=((2 ^ k-1:Nat):Int)) (by
    have hp:=Z1m (show k<64 by omega)
    have:=Nat.two_pow_pos k
    rw [show ((2 ^ k:Nat):Int)-1=((2 ^ k-1:Nat):Int) by omega]
    exact IntWalk.u64_in _ ⟨Int.natCast_nonneg _,Int.ofNat_le.2 (show _≤18446744073709551615 by omega)⟩) ?_
   have hp:=Z1m (show k<64 by omega)
   have hp2:2≤2 ^ k:=Nat.pow_le_pow_right (n:=2) (by decide) h1
   repeat' (first|refine Zf (Zm (k:=33) rfl rfl (ZM rfl)) ?_|(first|refine st ?_|(apply B<;>intro hb<;>try cases hb)))
   exact Z1 rfl (Z2q rfl) (by rw [Z3p (by omega) (by omega)]; rfl)
theorem ZfS (a b:Nat) (ha:a<18446744073709551616) (hb:b<18446744073709551616):bits .and .u64 (a:Int) (b:Int)=((a &&& b:Nat):Int):=by
 have h1:(BitVec.ofInt 64 (a:Int)).toNat=a:=by rw [BitVec.ofInt_natCast,BitVec.toNat_ofNat]; exact Nat.mod_eq_of_lt (by omega)
 have h2:(BitVec.ofInt 64 (b:Int)).toNat=b:=by rw [BitVec.ofInt_natCast,BitVec.toNat_ofNat]; exact Nat.mod_eq_of_lt (by omega)
 show IntKind.u64.wrap ((BitVec.ofInt 64 (a:Int) &&& BitVec.ofInt 64 (b:Int)).toNat:Int)=_
 rw [BitVec.toNat_and,h1,h2]
 have:a &&& b≤a:=Nat.and_le_left
 exact IntWalk.u64_in _ ⟨by omega,by omega⟩
set_option maxHeartbeats 2000000 in
theorem Z6c (N M:Nat) (hN:N<18446744073709551616) (hM:M<18446744073709551616):Spec Tryz.prog 25 [setN N,setN M] (· = setN (minusN N M)):=by
 have hlt:=Z4N M hN
 have hz:∀ M,minusN 0 M=0:=fun M=>Nat.le_zero.1 Nat.and_le_left
 have fin:∀ {r:PV} {x:Nat},x<18446744073709551616→IsTrim [x] r→r=setN x:=fun {r x} hx hr=>by
  have e1:=hr.set (fun y hy=>by rw [List.mem_singleton.1 hy]; exact hx)
  have e2:ofW [x]=x:=by simp [ofW]
  rw [e2] at e1
  exact e1
 rcases Z1k hN with⟨rfl,e1⟩|⟨h1,e1⟩<;>rcases Z1k hM with⟨rfl,e2⟩|⟨h2,e2⟩<;>rw [e1]<;>(try rw [e2])<;>clear e1 e2
 all_goals
  refine Z3 ok25 (Nat.le_of_ble_eq_true rfl) fun C hC=>?_
  refine Zi ?_
  refine Z9 ?_
  refine Z4 rfl rfl rfl ?_
  refine Z4 rfl rfl rfl ?_
  (refine go ?_;repeat' (apply B<;>intro hb<;>try cases hb))
  refine Z10 1 ?_
 · repeat' (first | refine Zf (Zm (k := 29) rfl rfl (ZM rfl)) ?_ | (first|refine st ?_|(apply B<;>intro hb<;>try cases hb)))
   refine ZD rfl rfl (Z31 []) (ZW rfl) rfl fun r hr=>?_
   have e1:=hr.set (fun x hx=>by cases hx)
   subst e1
   (refine go ?_;repeat' (apply B<;>intro hb<;>try cases hb))
   exact Z1 rfl (Z0 _) (show setN (ofW [])=_ by rw [hz]; simp [ofW])
 · repeat' (first | refine Zf (Zm (k := 29) rfl rfl (ZM rfl)) ?_ | (first|refine st ?_|(apply B<;>intro hb<;>try cases hb)))
   refine ZD rfl rfl (Z31 []) (ZW rfl) rfl fun r hr=>?_
   have e1:=hr.set (fun x hx=>by cases hx)
   subst e1
   (refine go ?_;repeat' (apply B<;>intro hb<;>try cases hb))
   exact Z1 rfl (Z0 _) (show setN (ofW [])=_ by rw [hz]; simp [ofW])
 · (repeat'(first|refine Z6 25 ?_|refine Z2 25 ?_|refine st ?_|(apply B<;>intro hb<;>try cases hb)))<;>try refine At.mk ?_
   refine Zq (Z11 [] 0) rfl rfl rfl (ZW rfl) ?_
   refine Zo (Z42 rfl (Z1r N 0 hN hM)) rfl rfl ?_
   repeat' (first|refine Zf (Zm (k:=29) rfl rfl (ZM rfl)) ?_|(first|refine st ?_|(apply B<;>intro hb<;>try cases hb)))
   refine ZD rfl rfl (Z31 [minusN N 0]) (ZW rfl) rfl fun r hr=>?_
   obtain rfl:=fin hlt hr
   (refine go ?_;repeat' (apply B<;>intro hb<;>try cases hb))
   exact Z1 rfl (Z0 _) rfl
 · (repeat'(first|refine Z6 25 ?_|refine Z2 25 ?_|refine st ?_|(apply B<;>intro hb<;>try cases hb)))<;>try refine At.mk ?_
   refine Zq (Z11 [M] 0) rfl rfl rfl (ZW rfl) ?_
   refine Zo (Z42 rfl (Z1r N M hN hM)) rfl rfl ?_
   repeat' (first|refine Zf (Zm (k:=29) rfl rfl (ZM rfl)) ?_|(first|refine st ?_|(apply B<;>intro hb<;>try cases hb)))
   refine ZD rfl rfl (Z31 [minusN N M]) (ZW rfl) rfl fun r hr=>?_
   obtain rfl:=fin hlt hr
   (refine go ?_;repeat' (apply B<;>intro hb<;>try cases hb))
   exact Z1 rfl (Z0 _) rfl
theorem Z6d (N:Nat) (f:Fm) (m:Made6 f):Spec Tryz.prog 18 [.agg (fC .u8 f),setN N,.vec [] true] (· = .val (.bool (holdB f N))):=by
 have hd:=m.depth
 have hs:=m.size
 have:=ZbZ N [] true f (by omega) (by omega)
 have e:typeOfE f=0∧typeOfT f=1:=by
  unfold typeOfE typeOfT
  rw [if_neg (by omega),if_pos m.wf.1,if_pos m.wf.2,if_neg (by omega),if_pos m.wf.1,if_pos m.wf.2]
  exact⟨rfl,m.ty⟩
 rw [e.1,e.2] at this
 exact this
def HoldsW (f:Fm):Prop:=∀ N,Spec Tryz.prog 18 [.agg (fC .u8 f),setN N,.vec [] true] (· = .val (.bool (holdB f N)))
theorem Made6.holdsW {f:Fm} (m:Made6 f):HoldsW f:=fun N=>Z6d N f m
theorem Z74 (f:Fm) (hd:f.depth≤1000) (hsz:f.size≤1099511627776) (l:List Pr) (S:List Nat) (s:Nat) (hs:s<18446744073709551616) (h0:s.testBit 0=false):Spec Tryz.prog 62 [.agg (fC .u8 f),hierP l S,setN s] (· = .val (.int .i64 (checkM f))):=by
 have hw:decide (s ||| (2 ^ 64-1)=2 ^ 64-1)=true:=decide_eq_true (orSub.2 fun i hi=>by
  have:i<64:=Nat.lt_of_not_le fun h8=>by
   rw [Nat.testBit_lt_two_pow (Nat.lt_of_lt_of_le hs (Nat.pow_le_pow_right (n:=2) (by decide) h8))] at hi; cases hi
  rw [Nat.testBit_two_pow_sub_one,decide_eq_true this])
 have hh:=Z5z s 0 (by decide) (by decide)
 rw [show (0:Int).toNat=0 from rfl,h0] at hh
 have hh0:=Z5E s (2 ^ 64-1) hs (by decide)
 rw [hw] at hh0
 refine Z3 ok62 (Nat.le_of_ble_eq_true rfl) fun C hC=>?_
 refine Zi ?_
 refine Z9 ?_
 refine Z4 rfl rfl rfl ?_
 refine Z4 rfl rfl rfl ?_
 (refine go ?_;repeat' (apply B<;>intro hb<;>try cases hb))
 refine Zq hh rfl rfl rfl ⟨Z0 s,trivial,trivial⟩ ?_
 (refine go ?_;repeat' (apply B<;>intro hb<;>try cases hb))
 refine Zq (ZcE 64 (by decide) (by decide)) rfl rfl rfl ⟨trivial,trivial⟩ ?_
 (refine go ?_;repeat' (apply B<;>intro hb<;>try cases hb))
 refine Zq hh0 rfl rfl rfl ⟨Z0 s,Z0 _,trivial⟩ ?_
 (refine go ?_;repeat' (apply B<;>intro hb<;>try cases hb))
 refine Z5 (Z4K f hd hsz) rfl rfl rfl ⟨Zg _ _,trivial,trivial⟩ rfl ?_
 (refine go ?_;repeat' (apply B<;>intro hb<;>try cases hb))
 exact Z1 rfl trivial rfl
theorem Z83 {f:Fm} (m:HoldsW f) (l:List Pr) (S:List Nat) (E s:Nat) (hE:E<18446744073709551616) (hs:s<18446744073709551616):Spec Tryz.prog 65 [setN s,.cp (fC .u8 f),.cp [hierP l S],.cp [.vec (words (digs E)) false]] (· = .val (.bool (gdR f l E s))):=by
 have hp:pureL [PV.vec (words (digs E)) false]:=⟨Zc _,trivial⟩
 refine Z3 ok65 (Nat.le_of_ble_eq_true rfl) fun C hC=>?_
 refine Zi ?_
 refine Z9 ?_
 refine Z4 rfl rfl rfl ?_
 (refine go ?_;repeat' (apply B<;>intro hb<;>try cases hb))
 refine Zq (Z6c E s hE hs) rfl rfl rfl ⟨Z0 _,Z0 _,trivial⟩ ?_
 refine Zq (Z52 l S _ (Z4N s hE)) rfl rfl rfl ⟨ZJ l S,Z0 _,trivial⟩ ?_
 refine Zq (m (clo l (minusN E s))) rfl rfl rfl ⟨Zg _ _,Z0 _,trivial,trivial⟩ ?_
 rw [show holdB f (clo l (minusN E s))=gdR f l E s from rfl]
 generalize gdR f l E s=v
 cases v
 all_goals
  (refine go ?_;repeat' (apply B<;>intro hb<;>try cases hb))
  exact Z1 rfl trivial rfl
theorem Z6e {f:Fm} (m:HoldsW f) (l:List Pr) (S:List Nat) (E s:Nat) (hE:E<18446744073709551616) (hs:s<18446744073709551616):Spec Tryz.prog 66 [setN s,.cp (fC .u8 f),.cp [hierP l S],.cp [.vec (words (digs E)) false]] (· = .val (.bool (gdA f l E s))):=by
 refine Z3 ok66 (Nat.le_of_ble_eq_true rfl) fun C hC=>?_
 refine Zi ?_
 refine Z9 ?_
 refine Z4 rfl rfl rfl ?_
 (refine go ?_;repeat' (apply B<;>intro hb<;>try cases hb))
 refine Zq (Z3q E s hE hs) rfl rfl rfl ⟨Z0 _,Z0 _,trivial⟩ ?_
 refine Zq (Z52 l S _ (Z2U hE hs)) rfl rfl rfl ⟨ZJ l S,Z0 _,trivial⟩ ?_
 refine Zq (m (clo l (E ||| s))) rfl rfl rfl ⟨Zg _ _,Z0 _,trivial,trivial⟩ ?_
 rw [show holdB f (clo l (E ||| s))=gdA f l E s from rfl]
 generalize gdA f l E s=v
 cases v
 all_goals
  (refine go ?_;repeat' (apply B<;>intro hb<;>try cases hb))
  exact Z1 rfl trivial rfl
end Go.Proofs.YtjpkfigmmmngnaaGreatDoor
namespace Go.Proofs.YtjpkfigmmmngnaaGreatDoor
open Go.Shelf
def Z2S:Go.Shelf.Ren:=⟨fun|6=>115|15=>153|14=>152|28=>181|29=>182|20=>173|21=>174|22=>175|23=>176|24=>177|25=>178|26=>179|27=>180|46=>211|47=>212|48=>213|49=>214|50=>215|57=>227|n=>n,fun|22=>47|24=>42|25=>174|3=>3|39=>168|0=>0|53=>238|55=>23|4=>4|46=>231|45=>230|50=>235|5=>5|9=>9|66=>262|70=>266|76=>275|77=>192|n=>n,fun|n=>n⟩
theorem sortSet:Go.Proofs.SlLaysF0.n6 Tryz.prog Z2S:={
 mixed:=by kernel_rfl
 f6:=⟨Tryz.f115.name,by decide,Tryz.func115.trans (congrArg some (by kernel_rfl))⟩
 f14:=⟨Tryz.f152.name,by decide,Tryz.func152.trans (congrArg some (by kernel_rfl))⟩
 f15:=Tryz.func153.trans (congrArg some (by kernel_rfl))
 f20:=⟨Tryz.f173.name,by decide,Tryz.func173.trans (congrArg some (by kernel_rfl))⟩
 f21:=⟨Tryz.f174.name,by decide,Tryz.func174.trans (congrArg some (by kernel_rfl))⟩
 f22:=⟨Tryz.f175.name,by decide,Tryz.func175.trans (congrArg some (by kernel_rfl))⟩
 f23:=⟨Tryz.f176.name,by decide,Tryz.func176.trans (congrArg some (by kernel_rfl))⟩
 f24:=⟨Tryz.f177.name,by decide,Tryz.func177.trans (congrArg some (by kernel_rfl))⟩
 f25:=⟨Tryz.f178.name,by decide,Tryz.func178.trans (congrArg some (by kernel_rfl))⟩
 f26:=⟨Tryz.f179.name,by decide,Tryz.func179.trans (congrArg some (by kernel_rfl))⟩
 f27:=⟨Tryz.f180.name,by decide,Tryz.func180.trans (congrArg some (by kernel_rfl))⟩
 f28:=Tryz.func181.trans (congrArg some (by kernel_rfl))
 f29:=Tryz.func182.trans (congrArg some (by kernel_rfl))
 f46:=⟨Tryz.f211.name,by decide,Tryz.func211.trans (congrArg some (by kernel_rfl))⟩
 f47:=Tryz.func212.trans (congrArg some (by kernel_rfl))
 f48:=Tryz.func213.trans (congrArg some (by kernel_rfl))
 f49:=⟨Tryz.f214.name,by decide,Tryz.func214.trans (congrArg some (by kernel_rfl))⟩
 f50:=⟨Tryz.f215.name,by decide,Tryz.func215.trans (congrArg some (by kernel_rfl))⟩
 f57:=⟨Tryz.f227.name,by decide,Tryz.func227.trans (congrArg some (by kernel_rfl))⟩
 t0:=Tryz.underlying0
 a0:=Tryz.isAgg0
 z0:=Tryz.sizeOf0
 v0:=Tryz.zeroValue0
 t3:=Tryz.underlying3
 a3:=Tryz.isAgg3
 z3:=Tryz.sizeOf3
 v3:=Tryz.zeroValue3
 t4:=Tryz.underlying4
 a4:=Tryz.isAgg4
 z4:=Tryz.sizeOf4
 v4:=Tryz.zeroValue4
 t5:=Tryz.underlying5
 a5:=Tryz.isAgg5
 z5:=Tryz.sizeOf5
 v5:=Tryz.zeroValue5
 t9:=Tryz.underlying9
 a9:=Tryz.isAgg9
 z9:=Tryz.sizeOf9
 v9:=Tryz.zeroValue9
 t22:=Tryz.underlying47
 a22:=Tryz.isAgg47
 z22:=Tryz.sizeOf47
 v22:=Tryz.zeroValue47
 t25:=Tryz.underlying174
 a25:=Tryz.isAgg174
 z25:=Tryz.sizeOf174
 v25:=Tryz.zeroValue174
 t39:=Tryz.underlying168
 a39:=Tryz.isAgg168
 z39:=Tryz.sizeOf168
 v39:=Tryz.zeroValue168
 t45:=Tryz.underlying230
 a45:=Tryz.isAgg230
 z45:=Tryz.sizeOf230
 v45:=Tryz.zeroValue230
 t46:=Tryz.underlying231
 a46:=Tryz.isAgg231
 z46:=Tryz.sizeOf231
 v46:=Tryz.zeroValue231
 t50:=Tryz.underlying235
 a50:=Tryz.isAgg235
 z50:=Tryz.sizeOf235
 v50:=Tryz.zeroValue235
 t53:=Tryz.underlying238
 a53:=Tryz.isAgg238
 z53:=Tryz.sizeOf238
 v53:=Tryz.zeroValue238
 t55:=Tryz.underlying23
 a55:=Tryz.isAgg23
 z55:=Tryz.sizeOf23
 v55:=Tryz.zeroValue23
 t66:=Tryz.underlying262
 a66:=Tryz.isAgg262
 z66:=Tryz.sizeOf262
 v66:=Tryz.zeroValue262
 t70:=Tryz.underlying266
 a70:=Tryz.isAgg266
 z70:=Tryz.sizeOf266
 v70:=Tryz.zeroValue266
 t76:=Tryz.underlying275
 a76:=Tryz.isAgg275
 z76:=Tryz.sizeOf275
 v76:=Tryz.zeroValue275
 t77:=Tryz.underlying192
 a77:=Tryz.isAgg192
 z77:=Tryz.sizeOf192
 v77:=Tryz.zeroValue192 }
theorem Zaj:∀ w,(isAgg (Z2S.t 24)).run Tryz.prog w=.ok true w:=Tryz.isAgg42
theorem Z98:∀ w,(Go.sizeOf (Z2S.t 24)).run Tryz.prog w=.ok 1 w:=Tryz.sizeOf42
end Go.Proofs.YtjpkfigmmmngnaaGreatDoor
namespace Go.Proofs.YtjpkfigmmmngnaaGreatDoor
open Go.RowKit
attribute [local irreducible] aw opsK dK
def stC (s:Nat):List PV := [.vec (words (digs s)) false]
theorem Z5n (s:Nat):pureL (stC s):=⟨Zc _,trivial⟩
def seL (l:List Nat):List (List PV):=l.map stC
theorem Z1f (l:List Nat):pureLL (seL l):=Z14 (enc:=stC) Z5n l
theorem Zak (l:List Nat):(seL l).length=l.length:=by simp [seL]
abbrev S64:={ s:Nat // s<18446744073709551616 }
theorem allS64 {xs:List Nat} (h:∀ c∈xs,c<18446744073709551616):∃ l:List S64,l.map (·.1)=xs:=by
 induction xs with
 | nil=>exact⟨[],rfl⟩
 | cons c xs ih =>
   obtain⟨l,hl⟩:=ih fun d hd=>h d (List.mem_cons_of_mem _ hd)
   exact⟨⟨c,h c (List.mem_cons_self ..)⟩ :: l,by rw [List.map_cons,hl]⟩
theorem Zal {n ob:Nat} {h:Heap} (xs:List Nat) (hx:∀ c∈xs,c<18446744073709551616) (hh:h ob=some ⟨1,seL xs⟩) :
 ISpec Tryz.prog 115 n [.own ob,.fn 116 []] h fun n' r h'=>n'=n∧r=.tup []∧∃ ys:List Nat,ys.Perm xs∧SortedK ys∧h'=h.upd ob ⟨1,seL ys⟩:=by
 obtain⟨l,rfl⟩:=allS64 hx
 have e:∀ l:List S64,seL (l.map (·.1))=l.map fun c:S64=>stC c.1:=fun l=>by unfold seL; rw [List.map_map]; rfl
 rw [e] at hh
 have hs:=Z4G (P:=Tryz.prog) (ρ:=Z2S) (n:=n) sortSet ⟨_,Tryz.func115,by kernel_rfl,by kernel_rfl⟩ 1 (by decide) Zaj Z98 (fun c:S64=>stC c.1) (fun c=>rfl) (fun c=>Z5n c.1) (fun c:S64=>key c.1) (fun a b:S64=>sgnI (key a.1) (key b.1)) (fun a b=>Z4h) 116 [] trivial (fun a b=>Z2M a.1 b.1 a.2 b.2) l hh
 refine hs.mono ?_
 rintro n' r h' ⟨h1,h2,ys,h3,h4,h5⟩
 refine⟨h1,h2,ys.map (·.1),h3.map _,?_,by rw [e]; exact h5⟩
 exact List.pairwise_map.2 h4
theorem Z6f (l:List Nat):(intsN l).length=l.length:=by simp [intsN]
theorem Zam (good:Nat→Bool) (a:Nat) (r:List Nat) (s:Nat):smStep good (a :: r) s=if popK 64 a<popK 64 s then a :: r else if good s then (if popK 64 s<popK 64 a then [s] else a :: r ++ [s]) else a :: r:=rfl
inductive SmR (E:Nat) (good:Nat→Bool):PV→Prop
 | many (h:12<popK 64 E):SmR E good (.tup [.vec [] true,.val (.int .i64 3)])
 | found (h:popK 64 E≤12) (out:List Nat) (fl:Bool) (hm:Mins (fun s=>s ||| E=E) good out) (hs:SortedK out):SmR E good (.tup [.vec (seL out) fl,.val (.int .i64 (if out = [] then 4 else 0))])
set_option maxHeartbeats 16000000 in
theorem Z3G {E:Nat} (hE:E<18446744073709551616) {g:Nat} {caps:List PV} (hc:pureL caps) {good:Nat→Bool} (hg:∀ s,s<18446744073709551616→Spec Tryz.prog g (setN s :: caps) (· = .val (.bool (good s)))):Spec Tryz.prog 63 [.vec (nums (intsN (mem E))) false,.fn g caps] (SmR E good):=by
 have hcp:∀ D,innL D caps:=fun D=>Zx (fun _ h=>h.elim) _ hc
 have hL:(nums (intsN (mem E))).length=(mem E).length:=by rw [Zt,Z6f]
 have hpk:=Zb5 E
 refine Z3 ok63 (Nat.le_of_ble_eq_true rfl) fun C hC=>?_
 (repeat'(first|refine Z6 13 ?_|refine Z2 13 ?_|refine st ?_|(apply B<;>intro hb<;>try cases hb)))<;>try refine At.mk ?_
 refine Zj rfl rfl rfl (fun hb=>?_) (fun hb=>?_)
 · have hmany : 12 < popK 64 E := by have := of_decide_eq_true hb; rw [hL] at this; omega
   (refine go ?_;repeat' (apply B<;>intro hb<;>try cases hb))
   exact Z1 rfl ⟨trivial,trivial,trivial⟩ (.many hmany)
 have hle:popK 64 E≤12:=by have:=of_decide_eq_false hb; rw [hL] at this; omega
 clear hb
 have hn12:(mem E).length≤12:=by omega
 have hpw:2 ^ (mem E).length≤4096:=Nat.le_trans (Nat.pow_le_pow_right (by decide) hn12) (by decide)
 have h16:IntKind.i64.wrap (1*2 ^ (min (((nums (intsN (mem E))).length:Nat):Int).toNat IntKind.i64.bits))=((2 ^ (mem E).length:Nat):Int):=by
  rw [hL]; exact shl1 _ (by omega)
 repeat' (first|refine Zf (Z15 (k:=6) rfl 1 (by decide)) ?_|(first|refine st ?_|(apply B<;>intro hb<;>try cases hb)))
 refine Z21 hC (fun m=>m≤2 ^ (mem E).length) (fun m=>2 ^ (mem E).length-m) 1 (fun m => [(0,.vec (nums (intsN (mem E))) false),(1,.fn g caps),(6,.own 0),(16,.val (.int .i64 ((2 ^ (mem E).length:Nat):Int))),(17,.val (.int .i64 (m:Int)))]) (fun m => [(0,⟨1,seL (smAll (mem E) good m)⟩)]) (by omega) 0 (Nat.zero_le _) (fun i=>i) (fun _ _=>rfl) ZV
  ⟨⟨_,rfl,.pure _ (Z7 _)⟩,⟨_,rfl,.pure _ hc⟩,⟨_,rfl,.own 0 (by decide)⟩,⟨_,by rw [← h16]; rfl,.pure _ trivial⟩,⟨_,rfl,.pure _ trivial⟩,trivial⟩ ⟨⟨by omega,_,rfl,.same _ trivial⟩,trivial⟩ ?_
 intro m hm
 have hinc:IntKind.i64.wrap ((m:Int)+1)=((m+1:Nat):Int):=IntWalk.i64_in _ ⟨by omega,by omega⟩
 (repeat'(first|refine Z6 18 ?_|refine Z2 18 ?_|refine st ?_|(apply B<;>intro hb<;>try cases hb)))<;>try refine At.mk ?_
 refine Zj rfl rfl rfl (fun hb=>?_) (fun hb=>?_)
 · have hml : m < 2 ^ (mem E).length := by have := of_decide_eq_true hb; omega
   clear hb
   (refine go ?_;repeat' (apply B<;>intro hb<;>try cases hb))
   refine Z21 hC (fun k=>k≤(mem E).length) (fun k=>(mem E).length-k) 2 (fun k => [(0,.vec (nums (intsN (mem E))) false),(1,.fn g caps),(6,.own 0),(7,.val (.int .i64 (m:Int))),(8,.ptr 1 0 0),(16,.val (.int .i64 ((2 ^ (mem E).length:Nat):Int))),(17,.val (.int .i64 (m:Int))),(20,.vec (nums (intsN (mem E))) false),(21,.val (.int .i64 ((mem E).length:Int))),(22,.val (.int .i64 (k:Int)))])
    (fun k => [(0,⟨1,seL (smAll (mem E) good m)⟩),(1,⟨1,[stC (subM ((mem E).take k) m)]⟩)]) (by omega) 0 (Nat.zero_le _) (fun i=>i) (fun _ _=>rfl) ZV
    ⟨⟨_,rfl,.pure _ (Z7 _)⟩,⟨_,rfl,.pure _ hc⟩,⟨_,rfl,.own 0 (by decide)⟩,⟨_,rfl,.pure _ trivial⟩,⟨_,rfl,.ptr (ρ:=fun i=>i) 1 0 0 (by decide)⟩,⟨_,rfl,.pure _ trivial⟩,⟨_,rfl,.pure _ trivial⟩,⟨_,rfl,.pure _ (Z7 _)⟩,⟨_,by rw [← hL]; rfl,.pure _ trivial⟩,⟨_,rfl,.pure _ trivial⟩,trivial⟩
    ⟨⟨by decide,_,rfl,.same _ (Z1f _)⟩,⟨by decide,⟨1,[[.vec [] true]]⟩,rfl,by rw [List.take_zero,show stC (subM [] m) = [.vec [] false] by (show [PV.vec (words (digs 0)) false]=_; rw [Zv]; rfl)]; exact RenB.single (ρ:=fun i=>i) (l0 := [.vec [] true]) (l := [.vec [] false]) (show RenLs _ _ [_] [_] from ⟨.low (.vec [] true) trivial,trivial⟩) rfl⟩,trivial⟩ ?_
   intro k hk
   have hkinc:IntKind.i64.wrap ((k:Int)+1)=((k+1:Nat):Int):=IntWalk.i64_in _ ⟨by omega,by omega⟩
   have nextK:∀ {v:PV},v=.agg (stC (subM ((mem E).take (k+1)) m))→v=.agg (stC (subM ((mem E).take (k+1)) m)):=fun h=>h
   (repeat'(first|refine Z6 23 ?_|refine Z2 23 ?_|refine st ?_|(apply B<;>intro hb<;>try cases hb)))<;>try refine At.mk ?_
   refine Zj rfl rfl rfl (fun hb=>?_) (fun hb=>?_)
   · have hkl : k < (mem E).length := by have := of_decide_eq_true hb; omega
     clear hb
     have hget : (intsN (mem E))[k]'(by rw [Z6f]; exact hkl) = (((mem E)[k] : Nat) : Int) := by simp [intsN]
     have hsn:=Z8Z ((mem E).take k) (mem E)[k] m
     rw [← Z70 hkl,List.length_take,Nat.min_eq_left (Nat.le_of_lt hkl)] at hsn
     have hr64:=Z1G (List.getElem_mem hkl)
     have hcur:subM ((mem E).take k) m<18446744073709551616:=Zgh (n:=18446744073709551616) (fr:=E) (orSub.2 fun i hi=>by
      obtain⟨j,hj,h1,_⟩:=(Z4w _ _ _).1 hi
      exact (Z1s hE).1 (h1▸List.mem_of_mem_take (List.getElem_mem hj))) hE
     have hand:bits .and .i64 ((m / 2 ^ k:Nat):Int) 1=((m / 2 ^ k % 2:Nat):Int):=by
      rw [show (1:Int)=((1:Nat):Int) from rfl,Z7F _ 1 (Nat.lt_of_le_of_lt (Nat.div_le_self _ _) (by omega)) (by decide),Nat.and_one_is_mod]
     (refine go ?_;repeat' (apply B<;>intro hb<;>try cases hb))
     refine Za (Zk (xs:=intsN (mem E)) (g:=fun x => [.val (.int .i64 x)]) rfl rfl k rfl (by rw [Z6f]; exact hkl) rfl) rfl rfl ?_
     rw [hget]
     generalize (mem E)[k]=q at hsn hr64 ⊢
     (repeat'(first|refine Z6 29 ?_|refine Z2 29 ?_|refine st ?_|(apply B<;>intro hb<;>try cases hb)))<;>try refine At.mk ?_
     refine Ze rfl rfl rfl (Z5A m k (by omega)) ?_
     refine Ze rfl rfl rfl hand ?_
     refine Z1q rfl rfl rfl (Zdq m k) ?_
     cases hbit:m.testBit k with
     | false =>
       rw [hbit,if_neg (by decide),Nat.or_zero] at hsn
       (refine go ?_;repeat' (apply B<;>intro hb<;>try cases hb))
       exact⟨k+1,fun i=>i,hkl,by omega,fun _ _=>rfl,ZV,⟨⟨_,rfl,.pure _ (Z7 _)⟩,⟨_,rfl,.pure _ hc⟩,⟨_,rfl,.own 0 (by decide)⟩,⟨_,rfl,.pure _ trivial⟩,⟨_,rfl,.ptr (ρ:=fun i=>i) 1 0 0 (by decide)⟩,⟨_,rfl,.pure _ trivial⟩,⟨_,rfl,.pure _ trivial⟩,⟨_,rfl,.pure _ (Z7 _)⟩,⟨_,rfl,.pure _ trivial⟩,⟨_,by show some _=some _; rw [hkinc],.pure _ trivial⟩,trivial⟩,
        ⟨⟨by decide,_,rfl,.same _ (Z1f _)⟩,⟨by decide,_,rfl,by rw [hsn]; exact .same _ ⟨Z5n _,trivial⟩⟩,trivial⟩⟩
     | true =>
       rw [hbit,if_pos rfl] at hsn
       have hws:=Z36 (subM ((mem E).take k) m) (Nat.le_trans (Z27 hcur) (by decide)) (q:Int)
       rw [withN,if_pos ⟨by omega,by omega⟩,Int.toNat_natCast,← hsn] at hws
       (refine go ?_;repeat' (apply B<;>intro hb<;>try cases hb))
       refine Z5 hws rfl rfl rfl ⟨Z0 _,trivial,trivial⟩ rfl ?_
       (refine go ?_;repeat' (apply B<;>intro hb<;>try cases hb))
       exact⟨k+1,fun i=>i,hkl,by omega,fun _ _=>rfl,ZV,⟨⟨_,rfl,.pure _ (Z7 _)⟩,⟨_,rfl,.pure _ hc⟩,⟨_,rfl,.own 0 (by decide)⟩,⟨_,rfl,.pure _ trivial⟩,⟨_,rfl,.ptr (ρ:=fun i=>i) 1 0 0 (by decide)⟩,⟨_,rfl,.pure _ trivial⟩,⟨_,rfl,.pure _ trivial⟩,⟨_,rfl,.pure _ (Z7 _)⟩,⟨_,rfl,.pure _ trivial⟩,⟨_,by show some _=some _; rw [hkinc],.pure _ trivial⟩,trivial⟩,
        ⟨⟨by decide,_,rfl,.same _ (Z1f _)⟩,⟨by decide,_,rfl,.same _ ⟨Z5n _,trivial⟩⟩,trivial⟩⟩
   · have hkl : k = (mem E).length := by have := of_decide_eq_false hb; omega
     subst hkl
     rw [List.take_length]
     clear hb
     have hst:smAll (mem E) good (m+1)=smStep good (smAll (mem E) good m) (subM (mem E) m):=rfl
     have hs64:=Zex (m:=m) hE
     have hout:=Z82 hE good m
     have hol:=Z94 (mem E) good m
     generalize subM (mem E) m=s at hst hs64 ⊢
     generalize smAll (mem E) good m=out at hst hout hol ⊢
     cases out with
     | nil =>
       (refine go ?_;repeat' (apply B<;>intro hb<;>try cases hb))
       refine Zq (hg s hs64) rfl rfl rfl ⟨Z0 _,hc⟩ ?_
       cases hgs:good s with
       | false =>
         have hstep:smStep good [] s = []:=by unfold smStep; rw [hgs]; rfl
         (refine go ?_;repeat' (apply B<;>intro hb<;>try cases hb))
         exact⟨m+1,(fun i=>i),by omega,by omega,fun j hj=>absurd hj (Nat.not_lt_zero _),ZI rfl,⟨⟨_,rfl,.pure _ (Z7 _)⟩,⟨_,rfl,.pure _ hc⟩,⟨_,rfl,.own (ρ:=(fun i=>i)) 0 (by decide)⟩,⟨_,rfl,.pure _ trivial⟩,⟨_,by show some _=some _; rw [hinc],.pure _ trivial⟩,trivial⟩,⟨⟨by decide,_,rfl,by rw [hst,hstep]; exact .same _ (Z1f _)⟩,trivial⟩⟩
       | true =>
         have hstep:smStep good [] s = [s]:=by unfold smStep; rw [hgs]; rfl
         (refine go ?_;repeat' (apply B<;>intro hb<;>try cases hb))
         exact⟨m+1,mv 0 32,by omega,by omega,fun j hj=>absurd hj (Nat.not_lt_zero _),ZI rfl,⟨⟨_,rfl,.pure _ (Z7 _)⟩,⟨_,rfl,.pure _ hc⟩,⟨_,rfl,.own (ρ:=mv 0 32) 0 (by decide)⟩,⟨_,rfl,.pure _ trivial⟩,⟨_,by show some _=some _; rw [hinc],.pure _ trivial⟩,trivial⟩,⟨⟨by decide,_,rfl,by rw [hst,hstep]; exact .same ⟨1,seL [s]⟩ (Z1f [s])⟩,trivial⟩⟩
     | cons a r =>
       rw [List.length_cons] at hol
       have ha64:=hout a (List.mem_cons_self ..)
       have hpos:decide (((seL (a :: r)).length:Int)>0)=true:=decide_eq_true (by rw [Zak,List.length_cons];omega)
       have hsc:=Zam good a r s
       have l1:=Z4n s hs64
       have l2:=Z4n a ha64
       generalize popK 64 s=ps at hsc l1
       generalize popK 64 a=pa at hsc l2
       (repeat'(first|refine Z6 38 ?_|refine Z2 38 ?_|refine st ?_|(apply B<;>intro hb<;>try cases hb)))<;>try refine At.mk ?_
       refine Zo (ZU rfl hpos) rfl rfl ?_
       (refine go ?_;repeat' (apply B<;>intro hb<;>try cases hb))
       refine Zq l1 rfl rfl rfl ⟨Z0 _,trivial⟩ ?_
       (refine go ?_;repeat' (apply B<;>intro hb<;>try cases hb))
       refine Zo (ZO (b:=⟨1,seL (a :: r)⟩) rfl rfl rfl 0 rfl (Nat.zero_lt_succ _) rfl) rfl rfl ?_
       (refine go ?_;repeat' (apply B<;>intro hb<;>try cases hb))
       refine Zq l2 rfl rfl rfl ⟨Z0 _,trivial⟩ ?_
       by_cases h1:pa<ps
       · have hd : decide (((ps : Nat) : Int) > ((pa : Nat) : Int)) = true := decide_eq_true (by omega)
         have hstep:smStep good (a :: r) s=a :: r:=by rw [hsc,if_pos h1]
         refine ZbR rfl ?_
         refine Zo (ZU rfl hd) rfl rfl ?_
         (refine go ?_;repeat' (apply B<;>intro hb<;>try cases hb))
         exact⟨m+1,(fun i=>i),by omega,by omega,fun j hj=>absurd hj (Nat.not_lt_zero _),ZI rfl,⟨⟨_,rfl,.pure _ (Z7 _)⟩,⟨_,rfl,.pure _ hc⟩,⟨_,rfl,.own (ρ:=(fun i=>i)) 0 (by decide)⟩,⟨_,rfl,.pure _ trivial⟩,⟨_,by show some _=some _; rw [hinc],.pure _ trivial⟩,trivial⟩,⟨⟨by decide,_,rfl,by rw [hst,hstep]; exact .same _ (Z1f _)⟩,trivial⟩⟩
       · have hd : decide (((ps : Nat) : Int) > ((pa : Nat) : Int)) = false := decide_eq_false (by omega)
         refine ZbR rfl ?_
         refine Zo (ZU rfl hd) rfl rfl ?_
         (refine go ?_;repeat' (apply B<;>intro hb<;>try cases hb))
         refine Zq (hg s hs64) rfl rfl rfl ⟨Z0 _,hc⟩ ?_
         cases hgs:good s with
         | false =>
           have hstep:smStep good (a :: r) s=a :: r:=by rw [hsc,if_neg h1,hgs]; rfl
           (refine go ?_;repeat' (apply B<;>intro hb<;>try cases hb))
           exact⟨m+1,(fun i=>i),by omega,by omega,fun j hj=>absurd hj (Nat.not_lt_zero _),ZI rfl,⟨⟨_,rfl,.pure _ (Z7 _)⟩,⟨_,rfl,.pure _ hc⟩,⟨_,rfl,.own (ρ:=(fun i=>i)) 0 (by decide)⟩,⟨_,rfl,.pure _ trivial⟩,⟨_,by show some _=some _; rw [hinc],.pure _ trivial⟩,trivial⟩,⟨⟨by decide,_,rfl,by rw [hst,hstep]; exact .same _ (Z1f _)⟩,trivial⟩⟩
         | true =>
           (repeat'(first|refine Z6 56 ?_|refine Z2 56 ?_|refine st ?_|(apply B<;>intro hb<;>try cases hb)))<;>try refine At.mk ?_
           refine Zo (ZU rfl hpos) rfl rfl ?_
           (refine go ?_;repeat' (apply B<;>intro hb<;>try cases hb))
           refine Zq l1 rfl rfl rfl ⟨Z0 _,trivial⟩ ?_
           (refine go ?_;repeat' (apply B<;>intro hb<;>try cases hb))
           refine Zo (ZO (b:=⟨1,seL (a :: r)⟩) rfl rfl rfl 0 rfl (Nat.zero_lt_succ _) rfl) rfl rfl ?_
           (refine go ?_;repeat' (apply B<;>intro hb<;>try cases hb))
           refine Zq l2 rfl rfl rfl ⟨Z0 _,trivial⟩ ?_
           by_cases h2:ps<pa
           · have hd2 : decide (((ps : Nat) : Int) < ((pa : Nat) : Int)) = true := decide_eq_true (by omega)
             have hstep:smStep good (a :: r) s = [s]:=by rw [hsc,if_neg h1,hgs,if_pos rfl,if_pos h2]
             refine ZbR rfl ?_
             refine Zo (ZU rfl hd2) rfl rfl ?_
             (refine go ?_;repeat' (apply B<;>intro hb<;>try cases hb))
             exact⟨m+1,mv 0 33,by omega,by omega,fun j hj=>absurd hj (Nat.not_lt_zero _),ZI rfl,⟨⟨_,rfl,.pure _ (Z7 _)⟩,⟨_,rfl,.pure _ hc⟩,⟨_,rfl,.own (ρ:=mv 0 33) 0 (by decide)⟩,⟨_,rfl,.pure _ trivial⟩,⟨_,by show some _=some _; rw [hinc],.pure _ trivial⟩,trivial⟩,⟨⟨by decide,_,rfl,by rw [hst,hstep]; exact .same ⟨1,seL [s]⟩ (Z1f [s])⟩,trivial⟩⟩
           · have hd2 : decide (((ps : Nat) : Int) < ((pa : Nat) : Int)) = false := decide_eq_false (by omega)
             have hstep:smStep good (a :: r) s=a :: r ++ [s]:=by rw [hsc,if_neg h1,hgs,if_pos rfl,if_neg h2]
             refine ZbR rfl ?_
             refine Zo (ZU rfl hd2) rfl rfl ?_
             (repeat'(first|refine Z6 71 ?_|refine Z2 71 ?_|refine st ?_|(apply B<;>intro hb<;>try cases hb)))<;>try refine At.mk ?_
             refine ZN (ZP (k:=0) (m := [stC s]) (fl:=true) (b:=⟨1,seL (a :: r)⟩) rfl rfl rfl (fun c hc=>by rw [List.mem_singleton] at hc; subst hc; rfl) rfl (by
              show ((seL (a :: r)).length+1)*24≤_
              rw [Zak,List.length_cons];omega)) rfl rfl ?_
             (refine go ?_;repeat' (apply B<;>intro hb<;>try cases hb))
             exact⟨m+1,mv 0 32,by omega,by omega,fun j hj=>absurd hj (Nat.not_lt_zero _),ZI rfl,⟨⟨_,rfl,.pure _ (Z7 _)⟩,⟨_,rfl,.pure _ hc⟩,⟨_,rfl,.own (ρ:=mv 0 32) 0 (by decide)⟩,⟨_,rfl,.pure _ trivial⟩,⟨_,by show some _=some _; rw [hinc],.pure _ trivial⟩,trivial⟩,⟨⟨by decide,_,rfl,by rw [hst,hstep,show seL (a :: r ++ [s])=seL (a :: r) ++ [stC s] by simp [seL]]; exact .same _ (by show pureLL (seL (a :: r) ++ [stC s]); rw [show seL (a :: r) ++ [stC s]=seL (a :: r ++ [s]) by simp [seL]]; exact Z1f _)⟩,trivial⟩⟩
 · have hml : m = 2 ^ (mem E).length := by have := of_decide_eq_false hb; omega
   subst hml
   clear hb
   have hM:=Zew hE good
   have hout:=Z82 hE good (2 ^ (mem E).length)
   generalize smAll (mem E) good (2 ^ (mem E).length)=out at hM hout ⊢
   cases out with
   | nil =>
     (refine go ?_;repeat' (apply B<;>intro hb<;>try cases hb))
     exact Z1 rfl ⟨trivial,trivial,trivial⟩ (.found hle [] true hM List.Pairwise.nil)
   | cons a r =>
     (repeat'(first|refine Z6 75 ?_|refine Z2 75 ?_|refine st ?_|(apply B<;>intro hb<;>try cases hb)))<;>try refine At.mk ?_
     refine Za (ZU (v:=false) rfl (by show (((seL (a :: r)).length:Int) == 0)=false; rw [Zak,beq_eq_false_iff_ne,List.length_cons];omega)) rfl rfl ?_
     (refine go ?_;repeat' (apply B<;>intro hb<;>try cases hb))
     refine ZR rfl rfl (Zal (ob:=0) (a :: r) hout rfl) ?_
     rintro n' x h' ⟨rfl,rfl,ys,hp,hs,rfl⟩
     (repeat'(first|refine Z6 78 ?_|refine Z2 78 ?_|refine st ?_|(apply B<;>intro hb<;>try cases hb)))<;>try refine At.mk ?_
     refine Zf (Zm (k:=6) (id:=0) (b:=⟨1,seL ys⟩) rfl rfl (Z1f ys)) ?_
     (refine go ?_;repeat' (apply B<;>intro hb<;>try cases hb))
     have hne:ys≠[]:=fun h=>by subst h; have:=hp.length_eq; simp at this
     have:=SmR.found hle ys false (hM.perm hp) hs
     rw [if_neg hne] at this
     exact Z1 rfl ⟨Z1f _,trivial,trivial⟩ this
inductive RepR (f:Fm) (E:Nat) (good:Nat→Bool):PV→Prop
 | bad (h:checkM f≠0):RepR f E good (.tup [.vec [] true,.val (.int .i64 (checkM f))])
 | sm (h:checkM f=0) {r:PV} (hr:SmR E good r):RepR f E good r
set_option maxHeartbeats 2000000 in
theorem Z84 {f:Fm} (hm:HoldsW f) (hd:f.depth≤1000) (hsz:f.size≤1099511627776) (l:List Pr) (S:List Nat) (E:Nat) (hE:E<18446744073709551616) (h0:E.testBit 0=false):Spec Tryz.prog 20 [.agg (fC .u8 f),setN E,hierP l S] (RepR f E (gdR f l E)):=by
 have hcp:pureL [PV.cp (fC .u8 f),.cp [hierP l S],.cp [.vec (words (digs E)) false]]:=⟨Zg _ _,⟨ZJ l S,trivial⟩,⟨Zc _,trivial⟩,trivial⟩
 refine Z3 ok20 (Nat.le_of_ble_eq_true rfl) fun C hC=>?_
 refine Zi ?_
 refine Z9 ?_
 refine Z4 rfl rfl rfl ?_
 refine Z4 rfl rfl rfl ?_
 refine Z4 rfl rfl rfl ?_
 (refine go ?_;repeat' (apply B<;>intro hb<;>try cases hb))
 refine Z5 (Z74 f hd hsz l S E hE h0) rfl rfl rfl ⟨Zg _ _,ZJ l S,Z0 E,trivial⟩ rfl ?_
 by_cases hk:checkM f=0
 · rw [hk]
   (refine go ?_;repeat' (apply B<;>intro hb<;>try cases hb))
   refine Z5 (Z38 E hE) rfl rfl rfl ⟨Z0 E,trivial⟩ rfl ?_
   (refine go ?_;repeat' (apply B<;>intro hb<;>try cases hb))
   refine ZD rfl rfl (Z3G hE (caps := [PV.cp (fC .u8 f),.cp [hierP l S],.cp [.vec (words (digs E)) false]]) hcp fun s hs=>Z83 hm l S E s hE hs) ⟨Z7 _,hcp,trivial⟩ rfl ?_
   rintro r hr
   rcases hr with h|⟨h,out,fl,h1,h2⟩
   · (refine go ?_;repeat' (apply B<;>intro hb<;>try cases hb))
     exact Z1 rfl ⟨trivial,trivial,trivial⟩ (.sm hk (.many h))
   · (refine go ?_;repeat' (apply B<;>intro hb<;>try cases hb))
     exact Z1 rfl ⟨Z1f _,trivial,trivial⟩ (.sm hk (.found h out fl h1 h2))
 · (repeat'(first|refine Z6 14 ?_|refine Z2 14 ?_|refine st ?_|(apply B<;>intro hb<;>try cases hb)))<;>try refine At.mk ?_
   refine Za (ZU (v:=true) rfl (bne_iff_ne.2 hk)) rfl rfl ?_
   (refine go ?_;repeat' (apply B<;>intro hb<;>try cases hb))
   exact Z1 rfl ⟨trivial,trivial,trivial⟩ (.bad hk)
set_option maxHeartbeats 2000000 in
theorem Z6g {f:Fm} (hm:HoldsW f) (hd:f.depth≤1000) (hsz:f.size≤1099511627776) (l:List Pr) (S:List Nat) (E Y:Nat) (hE:E<18446744073709551616) (hY:Y<18446744073709551616) (h0:(E ||| Y).testBit 0=false):Spec Tryz.prog 21 [.agg (fC .u8 f),setN E,setN Y,hierP l S] (RepR f (minusN Y E) (gdA f l E)):=by
 have hcp:pureL [PV.cp (fC .u8 f),.cp [hierP l S],.cp [.vec (words (digs E)) false]]:=⟨Zg _ _,⟨ZJ l S,trivial⟩,⟨Zc _,trivial⟩,trivial⟩
 have hM:=Z4N E hY
 refine Z3 ok21 (Nat.le_of_ble_eq_true rfl) fun C hC=>?_
 refine Zi ?_
 refine Z9 ?_
 refine Z4 rfl rfl rfl ?_
 refine Z4 rfl rfl rfl ?_
 refine Z4 rfl rfl rfl ?_
 refine Z4 rfl rfl rfl ?_
 (refine go ?_;repeat' (apply B<;>intro hb<;>try cases hb))
 refine Zq (Z3q E Y hE hY) rfl rfl rfl ⟨Z0 E,Z0 Y,trivial⟩ ?_
 refine Zq (Z74 f hd hsz l S (E ||| Y) (Z2U hE hY) h0) rfl rfl rfl ⟨Zg _ _,ZJ l S,Z0 _,trivial⟩ ?_
 by_cases hk:checkM f=0
 · rw [hk]
   (refine go ?_;repeat' (apply B<;>intro hb<;>try cases hb))
   refine Z5 (Z6c Y E hY hE) rfl rfl rfl ⟨Z0 Y,Z0 E,trivial⟩ rfl ?_
   refine Z5 (Z38 _ hM) rfl rfl rfl ⟨Z0 _,trivial⟩ rfl ?_
   (refine go ?_;repeat' (apply B<;>intro hb<;>try cases hb))
   refine ZD rfl rfl (Z3G hM (caps := [PV.cp (fC .u8 f),.cp [hierP l S],.cp [.vec (words (digs E)) false]]) hcp fun s hs=>Z6e hm l S E s hE hs) ⟨Z7 _,hcp,trivial⟩ rfl ?_
   rintro r hr
   rcases hr with h|⟨h,out,fl,h1,h2⟩
   · (refine go ?_;repeat' (apply B<;>intro hb<;>try cases hb))
     exact Z1 rfl ⟨trivial,trivial,trivial⟩ (.sm hk (.many h))
   · (refine go ?_;repeat' (apply B<;>intro hb<;>try cases hb))
     exact Z1 rfl ⟨Z1f _,trivial,trivial⟩ (.sm hk (.found h out fl h1 h2))
 · (repeat'(first|refine Z6 18 ?_|refine Z2 18 ?_|refine st ?_|(apply B<;>intro hb<;>try cases hb)))<;>try refine At.mk ?_
   refine Za (ZU (v:=true) rfl (bne_iff_ne.2 hk)) rfl rfl ?_
   (refine go ?_;repeat' (apply B<;>intro hb<;>try cases hb))
   exact Z1 rfl ⟨trivial,trivial,trivial⟩ (.bad hk)
theorem Zez {l:List Cu} {S i:Nat} (hi:i<l.length) (hno:(l.take i).any (fun c=>hoC c S)=false) (h:hoC l[i] S=true):firstC l S=some l[i]:=by
 have e:l=l.take i++l[i] :: l.drop (i+1):=by rw [← List.drop_eq_getElem_cons hi,List.take_append_drop]
 have h1:(l.take i).find? (fun c=>hoC c S)=none:=by rw [List.find?_eq_none]; rw [List.any_eq_false] at hno; exact hno
 unfold firstC
 generalize l[i]=c at e h
 rw [e,List.find?_append,h1,List.find?_cons,h]
 rfl
theorem ZfT {f:Fm} (h:checkM f≠0):vioL f = []:=by unfold vioL; rw [if_neg h]
def ofWP (o:Option Cu):PV:=.tup [cuP (o.getD (0,0)),.val (.bool o.isSome)]
theorem Z6h (o:Option Cu):(ofWP o).pure:=⟨Z5g _,trivial,trivial⟩
theorem Z4x:ofWP none=.tup [.agg [.vec [] false,.vec [] false],.val (.bool false)]:=by
 show PV.tup [.agg [.vec (words (digs 0)) false,.vec (words (digs 0)) false],_]=_
 rw [Zv]; rfl
set_option maxHeartbeats 4000000 in
theorem Z85 (f:Fm) (hd:f.depth≤1000) (hsz:f.size≤1099511627776) (S:Nat) (hS:S<18446744073709551616):Spec Tryz.prog 30 [.agg (fC .u8 f),setN S] (· = ofWP (firstC (vioL f) S)):=by
 have hok:=Z7R f
 have hvp:∀ D,innLL D ((vioL f).map cuC):=fun D=>Zh (fun _ h=>h.elim) _ (ZQ _)
 have hnl:((vioL f).map cuC).length=(vioL f).length:=by simp
 have hfp:=fun D=>Z3z .u8 f D
 refine Z3 ok30 (Nat.le_of_ble_eq_true rfl) fun C hC=>?_
 refine Zi ?_
 refine Z9 ?_
 refine Z4 rfl rfl rfl ?_
 refine Z4 rfl rfl rfl ?_
 (refine go ?_;repeat' (apply B<;>intro hb<;>try cases hb))
 refine Z5 (Z4K f hd hsz) rfl rfl rfl ⟨Zg _ _,trivial,trivial⟩ rfl ?_
 by_cases hk:checkM f=0
 · rw [hk]
   (refine go ?_;repeat' (apply B<;>intro hb<;>try cases hb))
   refine Z5 (Z5Y f hd hsz) rfl rfl rfl ⟨Zg _ _,trivial⟩ rfl ?_
   rw [hk]
   (refine go ?_;repeat' (apply B<;>intro hb<;>try cases hb))
   refine Z2T (k:=19) rfl fun hmax=>?_
   have hlm:(vioL f).length≤maxVec:=by rw [← hnl]; exact hmax
   refine Zr hC (fun i=>i≤(vioL f).length∧((vioL f).take i).any (fun c=>hoC c S)=false) (fun i=>(vioL f).length-i) 1 (fun i => [(3,.cp [.vec (words (digs S)) false]),(4,.ptr 0 0 0),(19,.vec ((vioL f).map cuC) false),(20,.val (.int .i64 ((vioL f).length:Int))),(21,.val (.int .i64 (i:Int)))])
    (fun i => [(0,⟨2,[[.vec [] true,.vec [] true]]⟩)]) (Nat.zero_le _) 0 ⟨Nat.zero_le _,rfl⟩
    ⟨⟨rfl,ZE _ _,trivial⟩,⟨rfl,show (0:Nat)<1 by decide⟩,⟨rfl,hvp _⟩,⟨by rw [← hnl]; rfl,trivial⟩,⟨rfl,trivial⟩,trivial⟩ ⟨⟨by decide,rfl,⟨⟨trivial,trivial,trivial⟩,trivial⟩⟩,trivial⟩ ?_
   rintro i ⟨hi,hno⟩
   have hinc:IntKind.i64.wrap ((i:Int)+1)=((i+1:Nat):Int):=IntWalk.i64_in _ ⟨by omega,by simp only [maxVec] at hlm; omega⟩
   (repeat'(first|refine Z6 22 ?_|refine Z2 22 ?_|refine st ?_|(apply B<;>intro hb<;>try cases hb)))<;>try refine At.mk ?_
   refine Zj rfl rfl rfl (fun hb=>?_) (fun hb=>?_)
   · have hil : i < (vioL f).length := by have := of_decide_eq_true hb; omega
     clear hb
     have hci:=hok _ (List.getElem_mem hil)
     (refine go ?_;repeat' (apply B<;>intro hb<;>try cases hb))
     refine Za (Zk (xs:=vioL f) (g:=cuC) rfl rfl i rfl hil rfl) rfl rfl ?_
     (refine go ?_;repeat' (apply B<;>intro hb<;>try cases hb))
     refine Z5 (Z9X (vioL f)[i] S hci hS) rfl rfl rfl ⟨Z5g _,Z0 _,trivial⟩ rfl ?_
     cases hh:hoC (vioL f)[i] S with
     | false =>
       (refine go ?_;repeat' (apply B<;>intro hb<;>try cases hb))
       exact⟨i+1,⟨by omega,Z7B hil hno hh⟩,by omega,⟨⟨rfl,ZE _ _,trivial⟩,⟨rfl,show (0:Nat)<1 by decide⟩,⟨rfl,hvp _⟩,⟨rfl,trivial⟩,⟨by show some _=some _; rw [hinc],trivial⟩,trivial⟩,⟨⟨by decide,rfl,⟨⟨trivial,trivial,trivial⟩,trivial⟩⟩,trivial⟩⟩
     | true =>
       (refine go ?_;repeat' (apply B<;>intro hb<;>try cases hb))
       exact Z1 rfl (Z6h (some (vioL f)[i])) (by rw [Zez hil hno hh]; rfl)
   · have hil : i = (vioL f).length := by have := of_decide_eq_false hb; omega
     subst hil
     rw [List.take_length] at hno
     clear hb
     (refine go ?_;repeat' (apply B<;>intro hb<;>try cases hb))
     refine Z3H rfl (Z6h none |> fun h=>by rw [Z4x] at h; exact h) ?_
     rw [show firstC (vioL f) S=none from Z2R.2 hno,Z4x]; rfl
 · (repeat'(first|refine Z6 12 ?_|refine Z2 12 ?_|refine st ?_|(apply B<;>intro hb<;>try cases hb)))<;>try refine At.mk ?_
   refine Za (ZU (v:=true) rfl (bne_iff_ne.2 hk)) rfl rfl ?_
   (refine go ?_;repeat' (apply B<;>intro hb<;>try cases hb))
   refine Z3H rfl (Z6h none |> fun h=>by rw [Z4x] at h; exact h) ?_
   rw [ZfT hk,show firstC [] S=none from rfl,Z4x]; rfl
end Go.Proofs.YtjpkfigmmmngnaaGreatDoor
namespace Go.Proofs.YtjpkfigmmmngnaaGreatDoor
open Go.Shelf
def Zan:Go.Shelf.Ren:=⟨fun|171=>104|243=>145|246=>169|283=>207|284=>208|285=>209|286=>210|129=>182|317=>223|318=>224|319=>225|320=>226|337=>230|338=>71|n=>n,fun|3=>3|9=>9|2=>2|4=>4|171=>258|0=>0|53=>23|37=>22|5=>5|173=>260|212=>273|51=>238|20=>20|213=>274|46=>168|232=>279|233=>176|n=>n,fun|17=>2|18=>3|19=>0|n=>n⟩
theorem lays171:Go.Proofs.Lays.n171 Tryz.prog Zan:={
 mixed:=by kernel_rfl
 f129:=Tryz.func182.trans (congrArg some (by kernel_rfl))
 f171:=Tryz.func104.trans (congrArg some (by kernel_rfl))
 f243:=Tryz.func145.trans (congrArg some (by kernel_rfl))
 f246:=Tryz.func169.trans (congrArg some (by kernel_rfl))
 f283:=Tryz.func207.trans (congrArg some (by kernel_rfl))
 f284:=Tryz.func208.trans (congrArg some (by kernel_rfl))
 f285:=Tryz.func209.trans (congrArg some (by kernel_rfl))
 f286:=Tryz.func210.trans (congrArg some (by kernel_rfl))
 f317:=Tryz.func223.trans (congrArg some (by kernel_rfl))
 f318:=Tryz.func224.trans (congrArg some (by kernel_rfl))
 f319:=Tryz.func225.trans (congrArg some (by kernel_rfl))
 f320:=Tryz.func226.trans (congrArg some (by kernel_rfl))
 f337:=Tryz.func230.trans (congrArg some (by kernel_rfl))
 f338:=Tryz.func71.trans (congrArg some (by kernel_rfl))
 t0:=Tryz.underlying0
 a0:=Tryz.isAgg0
 z0:=Tryz.sizeOf0
 v0:=Tryz.zeroValue0
 t2:=Tryz.underlying2
 a2:=Tryz.isAgg2
 z2:=Tryz.sizeOf2
 v2:=Tryz.zeroValue2
 t3:=Tryz.underlying3
 a3:=Tryz.isAgg3
 z3:=Tryz.sizeOf3
 v3:=Tryz.zeroValue3
 t4:=Tryz.underlying4
 a4:=Tryz.isAgg4
 z4:=Tryz.sizeOf4
 v4:=Tryz.zeroValue4
 t5:=Tryz.underlying5
 a5:=Tryz.isAgg5
 z5:=Tryz.sizeOf5
 v5:=Tryz.zeroValue5
 t9:=Tryz.underlying9
 a9:=Tryz.isAgg9
 z9:=Tryz.sizeOf9
 v9:=Tryz.zeroValue9
 t20:=Tryz.underlying20
 a20:=Tryz.isAgg20
 z20:=Tryz.sizeOf20
 v20:=Tryz.zeroValue20
 t37:=Tryz.underlying22
 a37:=Tryz.isAgg22
 z37:=Tryz.sizeOf22
 v37:=Tryz.zeroValue22
 t46:=Tryz.underlying168
 a46:=Tryz.isAgg168
 z46:=Tryz.sizeOf168
 v46:=Tryz.zeroValue168
 t51:=Tryz.underlying238
 a51:=Tryz.isAgg238
 z51:=Tryz.sizeOf238
 v51:=Tryz.zeroValue238
 t53:=Tryz.underlying23
 a53:=Tryz.isAgg23
 z53:=Tryz.sizeOf23
 v53:=Tryz.zeroValue23
 t171:=Tryz.underlying258
 a171:=Tryz.isAgg258
 z171:=Tryz.sizeOf258
 v171:=Tryz.zeroValue258
 t173:=Tryz.underlying260
 a173:=Tryz.isAgg260
 z173:=Tryz.sizeOf260
 v173:=Tryz.zeroValue260
 t212:=Tryz.underlying273
 a212:=Tryz.isAgg273
 z212:=Tryz.sizeOf273
 v212:=Tryz.zeroValue273
 t213:=Tryz.underlying274
 a213:=Tryz.isAgg274
 z213:=Tryz.sizeOf274
 t232:=Tryz.underlying279
 a232:=Tryz.isAgg279
 z232:=Tryz.sizeOf279
 v232:=Tryz.zeroValue279
 t233:=Tryz.underlying176
 a233:=Tryz.isAgg176
 z233:=Tryz.sizeOf176
 v233:=Tryz.zeroValue176
 g17:=by kernel_rfl
 g18:=by kernel_rfl
 g19:=by kernel_rfl }
def Z6i:Go.Shelf.Ren:=⟨fun|156=>100|165=>140|166=>107|169=>108|240=>146|241=>166|276=>170|277=>206|n=>n,fun|31=>95|9=>9|3=>3|4=>4|0=>0|20=>20|72=>158|76=>162|70=>156|37=>22|75=>160|127=>207|164=>226|5=>5|80=>104|n=>n,fun|n=>n⟩
theorem lays156:Go.Proofs.Lays.n156 Tryz.prog Z6i:={
 mixed:=by kernel_rfl
 f156:=Tryz.func100.trans (congrArg some (by kernel_rfl))
 f165:=Tryz.func140.trans (congrArg some (by kernel_rfl))
 f166:=Tryz.func107.trans (congrArg some (by kernel_rfl))
 f169:=Tryz.func108.trans (congrArg some (by kernel_rfl))
 f240:=Tryz.func146.trans (congrArg some (by kernel_rfl))
 f241:=Tryz.func166.trans (congrArg some (by kernel_rfl))
 f276:=Tryz.func170.trans (congrArg some (by kernel_rfl))
 f277:=Tryz.func206.trans (congrArg some (by kernel_rfl))
 t0:=Tryz.underlying0
 a0:=Tryz.isAgg0
 z0:=Tryz.sizeOf0
 v0:=Tryz.zeroValue0
 t3:=Tryz.underlying3
 a3:=Tryz.isAgg3
 z3:=Tryz.sizeOf3
 v3:=Tryz.zeroValue3
 t4:=Tryz.underlying4
 a4:=Tryz.isAgg4
 z4:=Tryz.sizeOf4
 v4:=Tryz.zeroValue4
 t9:=Tryz.underlying9
 a9:=Tryz.isAgg9
 z9:=Tryz.sizeOf9
 v9:=Tryz.zeroValue9
 t20:=Tryz.underlying20
 a20:=Tryz.isAgg20
 z20:=Tryz.sizeOf20
 v20:=Tryz.zeroValue20
 t31:=Tryz.underlying95
 a31:=Tryz.isAgg95
 z31:=Tryz.sizeOf95
 v31:=Tryz.zeroValue95
 t37:=Tryz.underlying22
 a37:=Tryz.isAgg22
 z37:=Tryz.sizeOf22
 v37:=Tryz.zeroValue22
 t70:=Tryz.underlying156
 a70:=Tryz.isAgg156
 z70:=Tryz.sizeOf156
 v70:=Tryz.zeroValue156
 t72:=Tryz.underlying158
 a72:=Tryz.isAgg158
 z72:=Tryz.sizeOf158
 v72:=Tryz.zeroValue158
 t75:=Tryz.underlying160
 a75:=Tryz.isAgg160
 z75:=Tryz.sizeOf160
 v75:=Tryz.zeroValue160
 t76:=Tryz.underlying162
 a76:=Tryz.isAgg162
 z76:=Tryz.sizeOf162
 v76:=Tryz.zeroValue162
 t127:=Tryz.underlying207
 a127:=Tryz.isAgg207
 z127:=Tryz.sizeOf207
 v127:=Tryz.zeroValue207
 t164:=Tryz.underlying226
 a164:=Tryz.isAgg226
 z164:=Tryz.sizeOf226
 v164:=Tryz.zeroValue226 }
theorem builderExtra156:Builder.Extra Tryz.prog Z6i:={
 sizeBuilder:=by kernel_rfl
 liesBuilder:=by kernel_rfl
 t5:=Tryz.underlying5
 a5:=Tryz.isAgg5
 z5:=Tryz.sizeOf5
 v5:=Tryz.zeroValue5
 infoByte:=by kernel_rfl
 cellsByte:=by kernel_rfl
 sizeByte:=by kernel_rfl
 neB5:=by decide }
def Z2g:Go.Shelf.Ren:=⟨fun|167=>105|170=>106|156=>100|165=>140|166=>107|169=>108|240=>146|241=>166|276=>170|277=>206|n=>n,fun|31=>95|9=>9|3=>3|4=>4|0=>0|20=>20|72=>158|76=>162|70=>156|37=>22|75=>160|127=>207|164=>226|5=>5|80=>104|n=>n,fun|n=>n⟩
theorem lays166:Go.Proofs.Lays.n166 Tryz.prog Z2g:={
 mixed:=by kernel_rfl
 f166:=Tryz.func107.trans (congrArg some (by kernel_rfl))
 f240:=Tryz.func146.trans (congrArg some (by kernel_rfl))
 f276:=Tryz.func170.trans (congrArg some (by kernel_rfl))
 t0:=Tryz.underlying0
 a0:=Tryz.isAgg0
 z0:=Tryz.sizeOf0
 v0:=Tryz.zeroValue0
 t3:=Tryz.underlying3
 a3:=Tryz.isAgg3
 z3:=Tryz.sizeOf3
 v3:=Tryz.zeroValue3
 t4:=Tryz.underlying4
 a4:=Tryz.isAgg4
 z4:=Tryz.sizeOf4
 v4:=Tryz.zeroValue4
 t9:=Tryz.underlying9
 a9:=Tryz.isAgg9
 z9:=Tryz.sizeOf9
 v9:=Tryz.zeroValue9
 t20:=Tryz.underlying20
 a20:=Tryz.isAgg20
 z20:=Tryz.sizeOf20
 v20:=Tryz.zeroValue20
 t37:=Tryz.underlying22
 a37:=Tryz.isAgg22
 z37:=Tryz.sizeOf22
 v37:=Tryz.zeroValue22
 t70:=Tryz.underlying156
 a70:=Tryz.isAgg156
 z70:=Tryz.sizeOf156
 v70:=Tryz.zeroValue156
 t72:=Tryz.underlying158
 a72:=Tryz.isAgg158
 z72:=Tryz.sizeOf158
 v72:=Tryz.zeroValue158
 t75:=Tryz.underlying160
 a75:=Tryz.isAgg160
 z75:=Tryz.sizeOf160
 v75:=Tryz.zeroValue160
 t164:=Tryz.underlying226
 a164:=Tryz.isAgg226
 z164:=Tryz.sizeOf226
 v164:=Tryz.zeroValue226 }
theorem lays167:Go.Proofs.Lays.n167 Tryz.prog Z2g:={
 mixed:=by kernel_rfl
 f167:=Tryz.func105.trans (congrArg some (by kernel_rfl))
 f240:=Tryz.func146.trans (congrArg some (by kernel_rfl))
 f276:=Tryz.func170.trans (congrArg some (by kernel_rfl))
 t0:=Tryz.underlying0
 a0:=Tryz.isAgg0
 z0:=Tryz.sizeOf0
 v0:=Tryz.zeroValue0
 t4:=Tryz.underlying4
 a4:=Tryz.isAgg4
 z4:=Tryz.sizeOf4
 v4:=Tryz.zeroValue4
 t5:=Tryz.underlying5
 a5:=Tryz.isAgg5
 z5:=Tryz.sizeOf5
 v5:=Tryz.zeroValue5
 t9:=Tryz.underlying9
 a9:=Tryz.isAgg9
 z9:=Tryz.sizeOf9
 v9:=Tryz.zeroValue9
 t20:=Tryz.underlying20
 a20:=Tryz.isAgg20
 z20:=Tryz.sizeOf20
 v20:=Tryz.zeroValue20
 t37:=Tryz.underlying22
 a37:=Tryz.isAgg22
 z37:=Tryz.sizeOf22
 v37:=Tryz.zeroValue22
 t70:=Tryz.underlying156
 a70:=Tryz.isAgg156
 z70:=Tryz.sizeOf156
 v70:=Tryz.zeroValue156
 t72:=Tryz.underlying158
 a72:=Tryz.isAgg158
 z72:=Tryz.sizeOf158
 v72:=Tryz.zeroValue158
 t75:=Tryz.underlying160
 a75:=Tryz.isAgg160
 z75:=Tryz.sizeOf160
 v75:=Tryz.zeroValue160
 t164:=Tryz.underlying226
 a164:=Tryz.isAgg226
 z164:=Tryz.sizeOf226
 v164:=Tryz.zeroValue226 }
theorem lays169:Go.Proofs.Lays.n169 Tryz.prog Z2g:={
 mixed:=by kernel_rfl
 f169:=Tryz.func108.trans (congrArg some (by kernel_rfl))
 t0:=Tryz.underlying0
 a0:=Tryz.isAgg0
 z0:=Tryz.sizeOf0
 v0:=Tryz.zeroValue0
 t3:=Tryz.underlying3
 a3:=Tryz.isAgg3
 z3:=Tryz.sizeOf3
 v3:=Tryz.zeroValue3
 t9:=Tryz.underlying9
 a9:=Tryz.isAgg9
 z9:=Tryz.sizeOf9
 v9:=Tryz.zeroValue9
 t37:=Tryz.underlying22
 a37:=Tryz.isAgg22
 z37:=Tryz.sizeOf22
 v37:=Tryz.zeroValue22
 t70:=Tryz.underlying156
 a70:=Tryz.isAgg156
 z70:=Tryz.sizeOf156
 v70:=Tryz.zeroValue156
 t72:=Tryz.underlying158
 a72:=Tryz.isAgg158
 z72:=Tryz.sizeOf158
 v72:=Tryz.zeroValue158
 t127:=Tryz.underlying207
 a127:=Tryz.isAgg207
 z127:=Tryz.sizeOf207
 v127:=Tryz.zeroValue207 }
theorem lays170:Go.Proofs.Lays.n170 Tryz.prog Z2g:={
 mixed:=by kernel_rfl
 f170:=Tryz.func106.trans (congrArg some (by kernel_rfl))
 t0:=Tryz.underlying0
 a0:=Tryz.isAgg0
 z0:=Tryz.sizeOf0
 v0:=Tryz.zeroValue0
 t3:=Tryz.underlying3
 a3:=Tryz.isAgg3
 z3:=Tryz.sizeOf3
 v3:=Tryz.zeroValue3
 t37:=Tryz.underlying22
 a37:=Tryz.isAgg22
 z37:=Tryz.sizeOf22
 v37:=Tryz.zeroValue22
 t70:=Tryz.underlying156
 a70:=Tryz.isAgg156
 z70:=Tryz.sizeOf156
 v70:=Tryz.zeroValue156
 t72:=Tryz.underlying158
 a72:=Tryz.isAgg158
 z72:=Tryz.sizeOf158
 v72:=Tryz.zeroValue158 }
theorem bxB:Builder.Extra Tryz.prog Z2g:={
 sizeBuilder:=by kernel_rfl
 liesBuilder:=by kernel_rfl
 t5:=Tryz.underlying5
 a5:=Tryz.isAgg5
 z5:=Tryz.sizeOf5
 v5:=Tryz.zeroValue5
 infoByte:=by kernel_rfl
 cellsByte:=by kernel_rfl
 sizeByte:=by kernel_rfl
 neB5:=by decide }
end Go.Proofs.YtjpkfigmmmngnaaGreatDoor
namespace Go.Proofs.YtjpkfigmmmngnaaGreatDoor
open Go.RowKit Go.Shelf
attribute [local go_sem] Oper.semAt_some
def txtS (xs:List Nat):List UInt8:=xs.foldl (fun acc x=>acc++((if 1<acc.length then [32] else [])++Go.Lib.decDigits x)) [123]
theorem ZeA (xs:List Nat) (x:Nat):txtS (xs ++ [x])=txtS xs++((if 1<(txtS xs).length then [32] else [])++Go.Lib.decDigits x):=by rw [txtS,List.foldl_append]; rfl
def textB (N:Nat):ByteArray:=⟨(txtS (mem N) ++ [125]).toArray⟩
theorem Z75 {k:Nat} (hk:k<100):(Go.Lib.decDigits k).length≤2:=by
 by_cases h:k<10
 · rw [Go.Lib.decDigits_one h]; simp
 · rw [Go.Lib.decDigits_two h hk]; simp
theorem Zbn:∀ (xs:List Nat),(∀ x∈xs,x<100)→(txtS xs).length≤1+3*xs.length:=by
 have key:∀ (xs:List Nat) (acc:List UInt8),(∀ x∈xs,x<100)→(xs.foldl (fun acc x=>acc++((if 1<acc.length then [32] else [])++Go.Lib.decDigits x)) acc).length≤acc.length+3*xs.length:=by
  intro xs
  induction xs with
  | nil=>intro acc _; simp
  | cons x xs ih =>
    intro acc h
    rw [List.foldl_cons]
    have h1:=ih (acc++((if 1<acc.length then [32] else [])++Go.Lib.decDigits x)) fun y hy=>h y (List.mem_cons_of_mem _ hy)
    have h2:=Z75 (h x (List.mem_cons_self ..))
    rw [List.length_append,List.length_append] at h1
    have h3:(if 1<acc.length then [(32:UInt8)] else []).length≤1:=by split<;>simp
    rw [List.length_cons]
    omega
 intro xs h
 exact key xs [123] h
abbrev TB:TypeId:=Z2g.t 72
abbrev TU:TypeId:=Z2g.t 5
theorem Z86 (B b:Nat) (l:List UInt8) (c:UInt8) (ci:Int) (hc:ci=c.toNat) (w:World) (h:Lib.IsBuilderF TB TU B b (Lib.byteCells l) w) (hlen:l.length≤100000) (hBw:B≤w.heap.size) :
 Calls Tryz.prog 105 #[.pointer (some ⟨b,0,none⟩),.int .u8 ci] w fun e w'=>e=.returned .nilIface∧Lib.IsBuilderF TB TU B b (Lib.byteCells (l ++ [c])) w'∧Below B w w'∧Lib.OthersKept TU (some b) w w':=by
 subst hc
 refine (Any.Builder_WriteByte_k lays167 bxB B b (Lib.byteCells l) c.toNat w h (by rw [Lib.byteCells_length];omega) hBw).mono ?_
 rintro e w' ⟨h1,h2,h3,h4⟩
 refine⟨h1,.inr ?_,h3,h4⟩
 rw [Lib.byteCells_append]
 exact h2
theorem Zbo (B b:Nat) (l:List UInt8) (s:ByteArray) (w:World) (h:Lib.IsBuilderF TB TU B b (Lib.byteCells l) w) (hlen:l.length+s.size≤100000) (hBw:B≤w.heap.size) :
 Calls Tryz.prog 107 #[.pointer (some ⟨b,0,none⟩),.string s] w fun e w'=>e=.returned (.tuple #[.int .i64 s.size,.nilIface])∧Lib.IsBuilderF TB TU B b (Lib.byteCells (l++s.data.toList)) w'∧Below B w w'∧Lib.OthersKept TU (some b) w w':=by
 refine (Any.Builder_WriteString_k lays166 bxB B b (Lib.byteCells l) s w h (by rw [Lib.byteCells_length];omega) hBw).mono ?_
 rintro e w' ⟨h1,h2,h3,h4⟩
 refine⟨h1,.inr ?_,h3,h4⟩
 rw [Lib.byteCells_append,← Lib.strCells_eq]
 exact h2
theorem ZfU (B b:Nat) (l:List UInt8) (w:World) (h:Lib.IsBuilderF TB TU B b (Lib.byteCells l) w) :
 Calls Tryz.prog 106 #[.pointer (some ⟨b,0,none⟩)] w fun e w'=>e=.returned (.int .i64 l.length)∧w'=w:=by
 have:=Any.Builder_Len_f lays170 B b (Lib.byteCells l) w h
 rwa [Lib.byteCells_length] at this
theorem ZfV (B b:Nat) (l:List UInt8) (w:World) (h:Lib.IsBuilderF TB TU B b (Lib.byteCells l) w) (hBw:B≤w.heap.size) :
 Calls Tryz.prog 108 #[.pointer (some ⟨b,0,none⟩)] w fun e w'=>e=.returned (.string ⟨l.toArray⟩)∧Below B w w'∧Lib.OthersKept TU (some b) w w' :=
 (Any.Builder_String_any_k lays169 bxB B b l w h hBw).mono fun _ _ h=>⟨h.1,h.2.2⟩
theorem ZeB (s0:Value) (h1:s0.oneCell'=true) (w:World):Calls Tryz.prog 26 #[.agg #[s0]] w fun e w'=>e=.returned (.func (.func 70) #[] #[.pointer (some ⟨w.heap.size,0,none⟩)])∧∃ tS:TypeId,tS≠TU∧w'=w.alloc (.cells #[s0] tS):=by
 go_enter Tryz.func26,Tryz.ntmps26
 go_wp2
 go_ret
 exact⟨rfl,_,by decide,rfl⟩
theorem ZeC {T e:TypeId} {B b:Nat} {bs:List Value} {W W':World} {row:Option Nat} (h:Lib.IsBuilderF T e B b bs W) (hg:W.grownBy W' row) (hr:∀ r,row=some r→∃ o:Obj,W.heap[r]?=some o∧o.isCells=false):Lib.IsBuilderF T e B b bs W':=by
 have ncells:∀ {k:Nat} {cs:Array Value} {t:TypeId} {fz:Nat×Nat},W.heap[k]?=some (.cells cs t fz)→some k≠row:=by
  intro k cs t fz hk he
  obtain⟨o,ho,hc⟩:=hr k he.symm
  rw [hk] at ho; cases ho; cases hc
 have key:∀ p,Lib.BuilderAtF T e B b p bs W→Lib.BuilderAtF T e B b p bs W':=by
  rintro p ⟨hB,v,hb,hown,hne⟩
  refine⟨hB,v,(hg.block b (Array.getElem?_eq_some_iff.1 hb).1 (ncells hb)).trans hb,hown.kept hg ?_,hne⟩
  rcases hown.2 with⟨rfl,_⟩|⟨g',cap,cur,fz,rfl,_,hgg,_⟩
  · exact .inl rfl
  · exact .inr (ncells hgg)
 exact h.elim (fun h=>.inl (key _ h)) fun h=>.inr (key _ h)
theorem ZeD {f:FuncId} {args:List PV} {v:Value} (hb:HasBody Tryz.prog f) (h:∀ (F:Froz) (w:World) (vs:Array Value),Holds F w→RepL F noLoc vs args→Calls Tryz.prog f vs w fun e w'=>e=.returned v∧Below w.heap.size w w'):Spec Tryz.prog f args (· = .val v):=by
 refine⟨hb,fun F w vs hF hv=>(h F w vs hF hv).mono ?_⟩
 rintro en w' ⟨rfl,hbel⟩
 exact⟨v,.val v,F,rfl,rfl,.val _,hbel,Holds.kept hF hbel,fun _ _ h=>h,fun _ _=>rfl⟩
set_option maxHeartbeats 4000000 in
set_option maxRecDepth 100000 in
theorem Z4O (N:Nat) (hN:N<18446744073709551616):Spec Tryz.prog 55 [setN N] (· = .val (.string (textB N))):=by
 refine ZeD ⟨_,Tryz.func55,by kernel_rfl,by kernel_rfl⟩ fun F w vs hF hv=>?_
 have hv0:Rep F noLoc (vs.getD 0 undef) (.agg [.vec (words (digs N)) false]):=hv.2 0 (Nat.zero_lt_succ _)
 have hsz:vs.size=1:=hv.1
 obtain⟨az,has,h1,h2,h3⟩:=hv0.agg_inv
 have hvs:vs = #[.agg az]:=by
  refine Array.ext hsz fun i i1 i2=>?_
  have hi:i=0:=by omega
  subst hi
  rw [← has]; simp [Array.getD_eq_getD_getElem?,i1]
 subst hvs
 have has1:az = #[az.getD 0 undef]:=by
  refine Array.ext h1 fun i i1 i2=>?_
  have hi:i=0:=by have:az.size=1:=h1; omega
  subst hi
  simp [Array.getD_eq_getD_getElem?,i1]
 have h20:=h2 0 (Nat.zero_lt_succ _)
 have h30:Rep F noLoc (az.getD 0 undef) (.vec (words (digs N)) false):=h3 0 (Nat.zero_lt_succ _)
 rw [has1]
 generalize az.getD 0 undef=s0 at h20 h30
 refine (callsIn_wide (n:=3)).1 (callsIn_of_wp_marks Tryz.func55 rfl trivial ?_ rfl)
 simp only [Tryz.ntmps55,List.size_toArray,List.length_cons,List.length_nil,Nat.reduceAdd,Nat.reduceSub,Array.replicate_succ,Array.replicate_zero,List.push_toArray,List.append_toArray,List.nil_append,List.cons_append]
 gi_wp2
 have hB0:Lib.IsBuilderF TB TU (w.heap.size+1) (w.heap.size+1) (Lib.byteCells []) ((w.alloc (.cells #[s0] 42)).alloc (.cells #[.pointer none,.slice none 0 0] 158)):=.of (by
  have:=Lib.fresh_isBuilder TB TU (w.alloc (.cells #[s0] 42))
  rwa [World.size_alloc] at this)
 refine⟨trivial,(callsIn_wide.2 (Z86 (w.heap.size+1) (w.heap.size+1) [] 123 123 rfl _ hB0 (by decide) (by simp))).mono ?_⟩
 rintro e W1 ⟨rfl,hB1,hb1,hk1⟩
 have hx1:W1.heap[w.heap.size]?=some (.cells #[s0] 42 (0,0)):=by
  rw [hb1.block _ (Nat.lt_succ_self _),Lib.alloc_old _ _ _ (by rw [World.size_alloc]; exact Nat.lt_succ_self _)]
  exact heap_alloc_new w _
 have hlow1:Below w.heap.size w W1:=by
  refine Below.trans ?_ (hb1.mono (Nat.le_succ _))
  exact ((Below.refl _ w).alloc (Nat.le_refl _) _).alloc (by simp) _
 have hsz1:w.heap.size+2≤W1.heap.size:=by have:=hb1.size; simpa using this
 clear hb1 hk1
 have hl1:W1.cell? ⟨w.heap.size,0,none⟩=some s0:=by simp [World.cell?,hx1]
 gi_wp2
 refine⟨trivial,(callsIn_wide.2 (ZeB s0 h20 W1)).mono ?_⟩
 rintro e W2 ⟨rfl,tS,htS,rfl⟩
 gi_wp2
 have hcl:∀ x v,F x=some v→x.block<w.heap.size:=fun x v hx=>by
  have h1:=(hF.1 x v hx).2.2
  unfold World.cell? at h1
  split at h1
  · rename_i ho; exact (Array.getElem?_eq_some_iff.1 ho).1
  · cases h1
 let xa:Addr:=⟨W1.heap.size,0,none⟩
 let F1:Froz:=fun x=>if x=xa then some s0 else F x
 have hF1o:∀ x v,F x=some v→F1 x=some v:=fun x v hx=>by
  have h1:=hcl x v hx
  have:x≠xa:=fun e=>by rw [e] at h1; simp only [xa] at h1; omega
  simp only [F1]; rw [if_neg this]; exact hx
 obtain⟨W2,hW2⟩:∃ W2,W2=W1.alloc (.cells #[s0] tS):=⟨_,rfl⟩
 have hs2:W2.heap.size=W1.heap.size+1:=by rw [hW2,World.size_alloc]
 have hx2:W2.heap[W1.heap.size]?=some (.cells #[s0] tS (0,0)):=by rw [hW2]; exact heap_alloc_new W1 _
 have hlow2:Below w.heap.size w W2:=by rw [hW2]; exact hlow1.alloc (by omega) _
 have hB2:Lib.IsBuilderF TB TU (w.heap.size+1) (w.heap.size+1) (Lib.byteCells (txtS [])) W2:=by rw [hW2]; exact hB1.alloc _
 rw [← hW2]
 have hF2:Holds F1 W2:=⟨fun x v hx=>by
  simp only [F1] at hx
  split at hx
  · rename_i e; subst e; cases hx
    exact⟨rfl,h20,by simp [World.cell?,xa,hx2]⟩
  · have h1 := hF.1 x v hx
    exact⟨h1.1,h1.2.1,(hlow2.cell (hcl x v hx)).trans h1.2.2⟩,fun g j v hg=>hF1o _ _ (hF.2 g j v hg)⟩
 have hrep:RepL F1 noLoc #[.pointer (some xa)] [.cp [.vec (words (digs N)) false]]:=⟨rfl,fun i hi=>by
  have hi:i=0:=by simp at hi; omega
  subst hi
  refine .cp xa [.vec (words (digs N)) false] (fun _=>s0) rfl (fun j hj=>?_) fun j hj=>?_
  · have hj : j = 0 := by simp at hj; omega
    subst hj
    simp [F1,xa]
  · have hj : j = 0 := by simp at hj; omega
    subst hj
    exact h30.mono hF1o fun _ _ h=>h⟩
 have hseq:=(Z2L N hN).2 F1 W2 #[.pointer (some xa)] Fence.wide 2 (Z2h 2) hF2 hrep
 let I:List (MemT N)→World→Prop:=fun pre W=>Lib.IsBuilderF TB TU (w.heap.size+1) (w.heap.size+1) (Lib.byteCells (txtS (pre.map (·.val)))) W∧Below w.heap.size w W∧W.heap[W1.heap.size]?=some (.cells #[s0] tS (0,0))∧W2.heap.size≤W.heap.size
 have stepK:∀ {V V':World} {l1:List UInt8},Lib.IsBuilderF TB TU (w.heap.size+1) (w.heap.size+1) (Lib.byteCells l1) V→V.heap[W1.heap.size]?=some (.cells #[s0] tS (0,0))→Below (w.heap.size+1) V V'→Lib.OthersKept TU (some (w.heap.size+1)) V V' →
  KeepsFrom W2.heap.size V V'∧KpF F1 V V'∧V'.heap[W1.heap.size]?=some (.cells #[s0] tS (0,0))∧Below w.heap.size V V':=by
  intro V V' l1 hbd hbx hbl hok
  have hbc:∃ cs T fz,V.heap[w.heap.size+1]?=some (.cells cs T fz):=by
   rcases hbd with⟨_,v,hb,_⟩|⟨_,v,hb,_⟩<;>exact⟨_,_,_,hb⟩
  obtain⟨cs,T,fz,hbc⟩:=hbc
  have hbx':V'.heap[W1.heap.size]?=some (.cells #[s0] tS (0,0)):=hok _ _ hbx (by simp;omega) fun c fz e=>htS (by cases e; rfl)
  refine⟨⟨hbl.size,fun k o _ ho hnc=>hok k o ho (fun e=>?_) fun c fz e=>?_⟩,⟨fun x v hx hv=>?_,hbl.os,hbl.tape,hbl.output,hbl.size⟩,hbx',hbl.mono (Nat.le_succ _)⟩
  · have e := Option.some.inj e
    subst e
    rw [hbc] at ho; cases ho; cases hnc
  · subst e; cases hnc
  · simp only [F1] at hx
    split at hx
    · rename_i e; subst e; cases hx
      simp [World.cell?,xa,hbx']
    · exact (hbl.cell (Nat.lt_succ_of_lt (hcl x v hx))).trans hv
 refine wpIn_rangeFunc_ownH (gf:=70) (lb := #[.pointer (some xa)]) rfl (by decide) rfl trivial (enters_of Tryz.func70 (by kernel_rfl) rfl) hseq (fun h k=>h.trans k) ?kb (Below.refl _ _) (fun _=>rfl) I (fun _ _ _=>False) ?hI (fun _ _ _ _ _ h _ _=>h) ⟨hB2,hlow2,hx2,Nat.le_refl _⟩ (fun x a' _=>a'={ tmps := #[.agg #[s0],.pointer (some ⟨w.heap.size,0,none⟩),.string ⟨#[]⟩,.pointer (some ⟨w.heap.size+1,0,none⟩),.int .i64 x.val,.nilIface,.agg #[s0],.func (.func 70) #[] #[.pointer (some xa)],.int .i64 x.val,undef,undef,undef,undef,undef,undef,undef,undef],defers := [] }) (fun _ _ _ _ _ _ h _ _=>h) ?assign ?body ?done ?stop
 case kb =>
  intro W l o o' hl ho hc _
  exact KpF.grown (grownBy_putObj' W l o') fun r hr=>by cases hr; exact⟨o,ho,hc⟩
 case hI =>
  rintro pre W W' row ⟨a1,a2,a3,a4⟩ hg hr
  refine⟨ZeC a1 hg fun r e=>(hr r e).2,a2.grown hg (by omega) (fun k e=>by have:=(hr k e).1;omega),?_,Nat.le_trans a4 hg.size⟩
  rw [hg.block _ (Array.getElem?_eq_some_iff.1 a3).1 fun e=>by have:=(hr _ e.symm).1; omega]
  exact a3
 case assign =>
  intro l pre x W K hi hK
  gi_wp2
  exact hK _ _ (KeepsFrom.refl _ _) (KpF.refl _ _) hi rfl
 case body =>
  rintro l pre x a' W hl ⟨r,hr⟩ ⟨a1,a2,a3,a4⟩ rfl hlen
  have hx64:x.val<100:=Nat.lt_of_lt_of_le (Z1G x.2) (by decide)
  have hlt:∀ y∈pre.map (·.val),y<100:=fun y hy=>by
   obtain⟨z,_,rfl⟩:=List.mem_map.1 hy
   exact Nat.lt_of_lt_of_le (Z1G z.2) (by decide)
  have hml:(mem N).length≤64:=Z1a N
  have hln:=Zbn _ hlt
  rw [List.length_map] at hln
  have hdg:=Z75 hx64
  obtain⟨T0,hT0⟩:∃ T0,Hid (txtS (pre.map (·.val))=T0):=⟨_,Any.hidU rfl⟩
  rw [hT0.out] at a1 hln
  have fok:=Z2c (Z2h 0) l 1
  gi_wp2
  refine⟨trivial,(fok.calls _ _ _ _ _ (ZfU (w.heap.size+1) (w.heap.size+1) _ W a1)).mono ?_⟩
  rintro e V0 ⟨rfl,rfl⟩
  have fin:∀ {V1 V2:World},Lib.IsBuilderF TB TU (w.heap.size+1) (w.heap.size+1) (Lib.byteCells (T0++(if 1<T0.length then [32] else []))) V1→V1.heap[W1.heap.size]?=some (.cells #[s0] tS (0,0))→Below w.heap.size w V1→W2.heap.size≤V1.heap.size→KeepsFrom W2.heap.size V0 V1→KpF F1 V0 V1 →
   Lib.IsBuilderF TB TU (w.heap.size+1) (w.heap.size+1) (Lib.byteCells (T0++(if 1<T0.length then [32] else [])++Go.Lib.decDigits x.val)) V2→Below (w.heap.size+1) V1 V2→Lib.OthersKept TU (some (w.heap.size+1)) V1 V2→KeepsFrom W2.heap.size V0 V2∧KpF F1 V0 V2∧I (pre ++ [x]) V2:=by
   intro V1 V2 p1 p2 p3 p4 p5 p6 p7 p8 p9
   obtain⟨q1,q2,q3,q4⟩:=stepK p1 p2 p8 p9
   refine⟨p5.trans q1,p6.trans q2,?_,p3.trans q4,q3,Nat.le_trans p4 q4.size⟩
   rw [List.map_append,List.map_singleton,ZeA,← List.append_assoc,hT0.out]
   exact p7
  gi_wp2
  · have hb1 : 1 < T0.length := by omega
    rw [if_pos hb1] at fin
    refine⟨trivial,(fok.calls _ _ _ _ _ (Z86 (w.heap.size+1) (w.heap.size+1) _ 32 32 rfl V0 a1 (by omega) (by omega))).mono ?_⟩
    rintro e V1 ⟨rfl,c1,c2,c3⟩
    obtain⟨d1,d2,d3,d4⟩:=stepK a1 a3 c2 c3
    gi_wp2
    refine⟨trivial,(fok.calls _ _ _ _ _ (Any.strconv_Itoa_small lays171 x.val hx64 V1)).mono ?_⟩
    rintro e V2 ⟨rfl,rfl⟩
    gi_wp2
    refine⟨trivial,(fok.calls _ _ _ _ _ (Zbo (w.heap.size+1) (w.heap.size+1) _ _ V2 c1 (by
     show _+(Go.Lib.decDigits x.val).toArray.size≤_
     rw [List.length_append,List.size_toArray]; simp only [List.length_singleton];omega) (by have:=d4.size;omega))).mono ?_⟩
    rintro e V3 ⟨rfl,e1,e2,e3⟩
    gi_wp2
    exact fin c1 d3 (a2.trans d4) (Nat.le_trans a4 d4.size) d1 d2 e1 e2 e3
  · have hb1 : ¬ 1 < T0.length := by omega
    rw [if_neg hb1,List.append_nil] at fin
    refine⟨trivial,(fok.calls _ _ _ _ _ (Any.strconv_Itoa_small lays171 x.val hx64 V0)).mono ?_⟩
    rintro e V2 ⟨rfl,rfl⟩
    gi_wp2
    refine⟨trivial,(fok.calls _ _ _ _ _ (Zbo (w.heap.size+1) (w.heap.size+1) _ _ V2 a1 (by
     show _+(Go.Lib.decDigits x.val).toArray.size≤_
     rw [List.size_toArray];omega) (by omega))).mono ?_⟩
    rintro e V3 ⟨rfl,e1,e2,e3⟩
    gi_wp2
    exact fin a1 a3 a2 a4 (KeepsFrom.refl _ _) (KpF.refl _ _) e1 e2 e3
 case done =>
  rintro D xs W hD hS ⟨a1,a2,a3,a4⟩ hK
  gi_wp2
  have hlt:∀ y∈mem N,y<100:=fun y hy=>Nat.lt_of_lt_of_le (Z1G hy) (by decide)
  have hml:(mem N).length≤64:=Z1a N
  have hln:=Zbn _ hlt
  rw [hS] at a1
  refine⟨trivial,(callsIn_wide.2 (Z86 (w.heap.size+1) (w.heap.size+1) (txtS (mem N)) 125 125 rfl W a1 (by omega) (by omega))).mono ?_⟩
  rintro e V1 ⟨rfl,c1,c2,c3⟩
  obtain⟨d1,d2,d3,d4⟩:=stepK a1 a3 c2 c3
  have hK1:=d1.same D _ hD hK rfl
  gi_wp2
  refine⟨trivial,(callsIn_wide.2 (ZfV (w.heap.size+1) (w.heap.size+1) _ V1 c1 (by have:=d4.size;omega))).mono ?_⟩
  rintro e V2 ⟨rfl,f2,f3⟩
  obtain⟨g1,g2,g3,g4⟩:=stepK c1 d3 f2 f3
  have hK2:=g1.same D _ hD hK1 rfl
  gi_wp2
  refine⟨by simp,.inl ⟨_,_,rfl,run_takeDeferred hK2,?_⟩⟩
  refine⟨_,results_tmp rfl _ _ _,rfl,((a2.trans d4).trans g4).grown (grownBy_putObj' V2 D _) (by have:=d4.size; have:=g4.size;omega) fun k e=>by cases e; omega⟩
 case stop =>
  rintro D c pre W _ _ h _
  exact h.elim
end Go.Proofs.YtjpkfigmmmngnaaGreatDoor
namespace Go.Proofs.YtjpkfigmmmngnaaGreatDoor
open Go.RowKit
attribute [local irreducible] aw opsK dK
theorem Zbp {f:FuncId} {args:List PV} {v:Value} (hb:HasBody Tryz.prog f) (h:∀ (F:Froz) (w:World) (vs:Array Value),Holds F w→RepL F noLoc vs args→Calls Tryz.prog f vs w fun e w'=>e=.returned v∧Below w.heap.size w w'):Spec Tryz.prog f args (· = .val v):=by
 refine⟨hb,fun F w vs hF hv=>(h F w vs hF hv).mono ?_⟩
 rintro en w' ⟨rfl,hbel⟩
 exact⟨v,.val v,F,rfl,rfl,.val _,hbel,Holds.kept hF hbel,fun _ _ h=>h,fun _ _=>rfl⟩
def numS (k:Nat):ByteArray:=⟨(Go.Lib.decDigits k).toArray⟩
theorem Z3f (k:Nat) (hk:k<100):Spec Tryz.prog 104 [.val (.int .i64 (k:Int))] (· = .val (.string (numS k))):=by
 refine Zbp ⟨_,Tryz.func104,by kernel_rfl,by kernel_rfl⟩ fun F w vs hF hv=>?_
 obtain rfl:vs = #[.int .i64 (k:Int)]:=by
  refine Array.ext hv.1 fun i h1 h2=>?_
  have hi:i=0:=by simp at h2; omega
  subst hi
  have:=(show Rep F noLoc (vs.getD 0 undef) (.val (.int .i64 (k:Int))) from hv.2 0 (Nat.zero_lt_succ _)).val_inv
  simpa [Array.getD_eq_getD_getElem?,h1] using this
 refine (Any.strconv_Itoa_small lays171 k hk w).mono ?_
 rintro e w' ⟨rfl,rfl⟩
 exact⟨rfl,Below.refl _ _⟩
def strC (x:ByteArray):List PV := [.val (.string x)]
theorem Zn (l:List ByteArray):pureLL (l.map strC):=Z14 (enc:=strC) (fun _=>⟨trivial,trivial⟩) l
def joinS (l:List ByteArray) (sep:ByteArray):ByteArray:=⟨(Go.Lib.join (l.map (·.data.toList)) sep.data.toList).toArray⟩
theorem Z2E (l:List ByteArray) (fl:Bool) (sep:ByteArray) (hl:l.length≤140737488355328) (hlen:(Go.Lib.join (l.map (·.data.toList)) sep.data.toList).length≤140737488355328):Spec Tryz.prog 100 [.vec (l.map strC) fl,.val (.string sep)] (· = .val (.string (joinS l sep))):=by
 refine Zbp ⟨_,Tryz.func100,by kernel_rfl,by kernel_rfl⟩ fun F w vs hF hv=>?_
 have hv1:Rep F noLoc (vs.getD 0 undef) (.vec (l.map strC) fl):=hv.2 0 (show 0<2 by decide)
 have hv2:vs.getD 1 undef=.string sep:=(show Rep F noLoc (vs.getD 1 undef) (.val (.string sep)) from hv.2 1 (show 1<2 by decide)).val_inv
 have hvs:vs = #[vs.getD 0 undef,vs.getD 1 undef]:=by
  refine Array.ext hv.1 fun i h1 h2=>?_
  have hs:vs.size=2:=hv.1
  have hi:i=0 ∨ i=1:=by omega
  rcases hi with rfl|rfl<;>simp [Array.getD_eq_getD_getElem?,h1]
 rw [hvs,hv2]
 rcases hv1.vec_inv with⟨h0,hq⟩|⟨x,cap,esz,cs,hq,hs,hcap,hfull,hmax,he,hF1,hR⟩
 · have h0 : l = [] := List.map_eq_nil_iff.1 h0
   subst h0
   rw [hq]
   refine (Any.strings_Join_none lays156 builderExtra156 none 0 sep w).mono ?_
   rintro e w' ⟨rfl,rfl⟩
   exact⟨rfl,Below.refl _ _⟩
 · rw [hq, List.length_map]
   by_cases hne:l = []
   · subst hne
     refine (Any.strings_Join_none lays156 builderExtra156 (some x) cap sep w).mono ?_
     rintro e w' ⟨rfl,rfl⟩
     exact⟨rfl,Below.refl _ _⟩
   · have hsp := hs (by simpa using hne)
     obtain⟨bk,o,sp⟩:=x
     dsimp only at hsp
     subst hsp
     rw [List.length_map] at hcap
     have hpos:0<l.length:=List.length_pos_iff.2 hne
     have hez:esz=1:=by
      have:=he 0 (by simpa using hpos)
      rw [← this]
      simp [List.getD_eq_getElem?_getD,hpos,strC]
     subst hez
     have hcell:∀ (j:Nat) y,l[j]?=some y→F ⟨bk,o+j,none⟩=some (.string y):=fun j y hj=>by
      have hjl:=(List.getElem?_eq_some_iff.1 hj).1
      have h1:=hF1 j 0 (by simpa using hjl) (by decide)
      have h2:=hR j 0 (by simpa using hjl) (by decide)
      have h3:((l.map strC).getD j []).getD 0 pvu=.val (.string y):=by simp [List.getD_eq_getElem?_getD,hj,strC]
      rw [h3] at h2
      have h4:=h2.val_inv
      rw [h4] at h1
      simpa using h1
     refine Any.strings_Join lays156 builderExtra156 bk o cap l sep w (fun j y hj=>(hF.1 _ _ (hcell j y hj)).2.2) ?_ hl hcap hlen
     obtain⟨y,hy⟩:∃ y,l[0]?=some y:=⟨_,List.getElem?_eq_getElem hpos⟩
     have:=(hF.1 _ _ (hcell 0 y hy)).2.2
     unfold World.cell? at this
     split at this
     · rename_i ho; exact (Array.getElem?_eq_some_iff.1 ho).1
     · cases this
def litS (c:Cu) (r:Nat):List ByteArray:=(if c.1.testBit r then [numS r] else [])++if c.2.testBit r then [⟨#[33]⟩++numS r] else []
def litsS (c:Cu) (rs:List Nat):List ByteArray:=rs.flatMap (litS c)
def textS (c:Cu):ByteArray:=if litsS c (mem (c.1 ||| c.2)) = [] then ⟨#[102,117,108,108]⟩ else joinS (litsS c (mem (c.1 ||| c.2))) ⟨#[32]⟩
theorem ZcF (c:Cu) (rs:List Nat) (r:Nat):litsS c (rs ++ [r])=litsS c rs++litS c r:=by unfold litsS; rw [List.flatMap_append]; simp
theorem ZfW (c:Cu) (r:Nat):(litS c r).length≤2:=by unfold litS; rw [List.length_append]; split<;>split<;>simp
theorem Z6j (c:Cu):∀ rs:List Nat,(litsS c rs).length≤2*rs.length
 | []=>by simp [litsS]
 | r :: rs => by
   have h1:=ZfW c r
   have h2:=Z6j c rs
   unfold litsS at h2 ⊢
   rw [List.flatMap_cons,List.length_append,List.length_cons]
   omega
theorem Z6k {k:Nat} (hk:k<100):(numS k).data.toList.length≤2:=by
 show (Go.Lib.decDigits k).toArray.toList.length≤2
 by_cases h:k<10
 · rw [Go.Lib.decDigits_one h]; simp
 · rw [Go.Lib.decDigits_two h hk]; simp
theorem ZeE (x:ByteArray):((⟨#[33]⟩:ByteArray)++x).data.toList=33 :: x.data.toList:=by rw [ByteArray.data_append]; simp
theorem ZcG {c:Cu} {rs:List Nat} (h:∀ r∈rs,r<100):∀ x∈litsS c rs,x.data.toList.length≤3:=fun x hx=>by
 obtain⟨r,hr,hx⟩:=List.mem_flatMap.1 hx
 have hn:=Z6k (h r hr)
 unfold litS at hx
 rcases List.mem_append.1 hx with hx|hx
 · split at hx
   · rw [List.mem_singleton] at hx; subst hx; omega
   · cases hx
 · split at hx
   · rw [List.mem_singleton] at hx; subst hx
     rw [ZeE,List.length_cons]; omega
   · cases hx
theorem Zao {l:List (List UInt8)} {k:Nat} (h:∀ x∈l,x.length≤k):Go.Lib.lens l≤k*l.length:=by
 induction l with
 | nil=>simp [Go.Lib.lens]
 | cons x l ih =>
   have h1:=h x (List.mem_cons_self ..)
   have h2:=ih fun y hy=>h y (List.mem_cons_of_mem _ hy)
   have:Go.Lib.lens (x :: l)=x.length+Go.Lib.lens l:=by simp [Go.Lib.lens]
   rw [this,List.length_cons,Nat.mul_succ]; omega
theorem ZfX {l:List ByteArray} (h:∀ x∈l,x.data.toList.length≤3) (hl:l.length≤1000) (sep:ByteArray) (hs:sep.data.toList.length≤10):(Go.Lib.join (l.map (·.data.toList)) sep.data.toList).length≤140737488355328:=by
 cases l with
 | nil=>simp [Go.Lib.join_nil]
 | cons x l =>
   rw [List.map_cons,Go.Lib.join_length]
   have:=Zao (k:=3) (l:=(x :: l).map (·.data.toList)) fun y hy=>by
    obtain⟨z,hz,rfl⟩:=List.mem_map.1 hy
    exact h z hz
   rw [List.map_cons] at this
   simp only [List.length_cons,List.length_map] at this hl ⊢
   have h2:sep.data.toList.length*l.length≤10*l.length:=Nat.mul_le_mul_right _ hs
   omega
set_option maxRecDepth 100000 in
set_option maxHeartbeats 4000000 in
theorem ZcH (c:Cu) (hc:Ok64 c):Spec Tryz.prog 54 [cuP c] (· = .val (.string (textS c))):=by
 have hor:=Z2U hc.1 hc.2
 refine Z3 ok54 (Nat.le_of_ble_eq_true rfl) fun C hC=>?_
 refine Zi ?_
 refine Z9 ?_
 refine Z4 rfl rfl rfl ?_
 (repeat'(first|refine Z6 5 ?_|refine Z2 5 ?_|refine st ?_|(apply B<;>intro hb<;>try cases hb)))<;>try refine At.mk ?_
 refine Zf (Z1v (id:=0) (i0:=0) (j0:=0) rfl (by decide) (by decide) rfl 1 (by decide) (by decide)) ?_
 (repeat'(first|refine Z6 9 ?_|refine Z2 9 ?_|refine st ?_|(apply B<;>intro hb<;>try cases hb)))<;>try refine At.mk ?_
 refine Z5 (Z3q c.1 c.2 hc.1 hc.2) rfl rfl rfl ⟨Z0 _,Z0 _,trivial⟩ rfl ?_
 have hM:textS c=if litsS c (mem (c.1 ||| c.2)) = [] then ⟨#[102,117,108,108]⟩ else joinS (litsS c (mem (c.1 ||| c.2))) ⟨#[32]⟩:=rfl
 rw [hM]
 generalize c.1 ||| c.2=M at hor ⊢
 refine Z5 (Z28 M) rfl rfl rfl ⟨Z0 _,trivial⟩ rfl ?_
 (refine go ?_;repeat' (apply B<;>intro hb<;>try cases hb))
 refine Z3o (X:=List Nat) hC (caps := [.cp [.vec (words (digs M)) false]]) [(1,.cp (cuC c)),(3,.ptr 0 0 0),(10,.fn 70 [.cp [.vec (words (digs M)) false]])]
  (fun z => [(0,⟨1,[[.own 1]]⟩),(1,⟨1,(litsS c z).map strC⟩)]) rfl ⟨⟨Zc _,trivial⟩,trivial⟩ (Z2L M hor) (fun _=>rfl)
  (fun ex pre z=>ex=.normal∧z=pre.map (·.val)) 2 (by decide) [] ⟨rfl,rfl⟩
  (Z41 (EnvQ.mem (ρ := fun i => i) (m := 2) (L := [(1, .cp (cuC c)), (3, .ptr 0 0 0), (10, .fn 70 [.cp [.vec (words (digs M)) false]])]) ⟨⟨_, rfl, .pure _ (Z23 c)⟩, ⟨_, rfl, .ptr (ρ := fun i => i) 0 0 0 (by decide)⟩, ⟨_, rfl, .pure _ ⟨⟨Zc _, trivial⟩, trivial⟩⟩, trivial⟩)
    (HeapQ.mem (ρ:=fun i=>i) (m:=2) (L := [(0,⟨1,[[.own 1]]⟩),(1,⟨1,(litsS c []).map strC⟩)]) ⟨⟨by decide,_,rfl,RenB.single ⟨.own (ρ:=fun i=>i) 1 (by decide),trivial⟩ rfl⟩,⟨by decide,_,rfl,.same _ trivial⟩,trivial⟩) hC (by decide))
  (fun z q hq=>by simp at hq; rcases hq with rfl|rfl<;>exact Nat.zero_lt_succ _) _ (fun x=>rfl) ?_ ?_ ?_
 · rintro C2 hC2 pre x z ⟨-, rfl⟩ hlen
   have hx:=Z1G x.2
   have hml:=Z1a M
   have hsn:=ZcF c (pre.map (·.val)) x.val
   have hll:=Z6j c (pre.map (·.val))
   rw [List.length_map] at hll
   generalize litsS c (pre.map (·.val))=acc at hsn hll ⊢
   have hn:=Z6k (show x.val<100 by omega)
   have hcat:∀ (e:Env) (h:Heap) (n:Nat) (q:Operand),ev e q=some (.val (.string (numS x.val)))→dEval (.bin .add .num (.const (.string ⟨#[33]⟩)) q) e h n=some (.val (.string (⟨#[33]⟩++numS x.val)),h):=fun e h n q hq=>by
    have hsz:(⟨#[33]⟩:ByteArray).size+(numS x.val).size≤9223372036854775807:=by
     have:(numS x.val).size=(numS x.val).data.toList.length:=by rw [Array.length_toList]; rfl
     rw [this]
     show 1+_≤_
     omega
    have h1:ev e (.const (.string ⟨#[33]⟩))=some (.val (.string ⟨#[33]⟩)):=rfl
    simp only [dEval,h1,hq,pbin,sbin,if_pos hsz,Option.map]
   unfold litS at hsn
   (repeat'(first|refine Z6 15 ?_|refine Z2 15 ?_|refine st ?_|(apply B<;>intro hb<;>try cases hb)))<;>try refine At.mk ?_
   refine Z5 (Z6b c.1 hc.1 x.val) rfl rfl rfl ⟨Z0 _,trivial,trivial⟩ rfl ?_
   cases h1:c.1.testBit x.val
   · rw [h1, if_neg (by decide), List.nil_append] at hsn
     (repeat'(first|refine Z6 24 ?_|refine Z2 24 ?_|refine st ?_|(apply B<;>intro hb<;>try cases hb)))<;>try refine At.mk ?_
     refine Z5 (Z6b c.2 hc.2 x.val) rfl rfl rfl ⟨Z0 _,trivial,trivial⟩ rfl ?_
     cases h2:c.2.testBit x.val
     · rw [h2, if_neg (by decide), List.append_nil] at hsn
       (refine go ?_;repeat' (apply B<;>intro hb<;>try cases hb))
       exact⟨.inl rfl,pre.map (·.val) ++ [x.val],fun i=>i,⟨rfl,by rw [List.map_append]; rfl⟩,fun i hi=>rfl,ZV,
        ⟨⟨_,rfl,.pure _ (Z23 c)⟩,⟨_,rfl,.ptr (ρ:=fun i=>i) 0 0 0 (by decide)⟩,⟨_,rfl,.pure _ ⟨⟨Zc _,trivial⟩,trivial⟩⟩,trivial⟩,
        ⟨⟨by decide,_,rfl,RenB.single ⟨.own (ρ:=fun i=>i) 1 (by decide),trivial⟩ rfl⟩,⟨by decide,_,rfl,by rw [hsn]; exact .same _ (Zn _)⟩,trivial⟩⟩
     · rw [h2, if_pos rfl] at hsn
       (repeat'(first|refine Z6 27 ?_|refine Z2 27 ?_|refine st ?_|(apply B<;>intro hb<;>try cases hb)))<;>try refine At.mk ?_
       refine Zq (Z3f x.val (by omega)) rfl rfl rfl ⟨trivial,trivial⟩ ?_
       refine Zo (hcat _ _ _ _ rfl) rfl rfl ?_
       (repeat'(first|refine Z6 30 ?_|refine Z2 30 ?_|refine st ?_|(apply B<;>intro hb<;>try cases hb)))<;>try refine At.mk ?_
       refine Zo (ZP (k:=1) (m := [strC (⟨#[33]⟩++numS x.val)]) (fl:=true) rfl rfl rfl (fun q hq=>by rw [List.mem_singleton] at hq; subst hq; rfl) rfl (by
        show ((acc.map strC).length+1)*16≤_
        rw [List.length_map];omega)) rfl rfl ?_
       (refine go ?_;repeat' (apply B<;>intro hb<;>try cases hb))
       refine⟨.inl rfl,pre.map (·.val) ++ [x.val],mv 1 7,⟨rfl,by rw [List.map_append]; rfl⟩,Z3B (by decide),ZI rfl,
        ⟨⟨_,rfl,.pure _ (Z23 c)⟩,⟨_,rfl,.ptr (ρ:=mv 1 7) 0 0 0 (by decide)⟩,⟨_,rfl,.pure _ ⟨⟨Zc _,trivial⟩,trivial⟩⟩,trivial⟩,
        ⟨⟨by decide,_,rfl,RenB.single ⟨.own (ρ:=mv 1 7) 1 (by decide),trivial⟩ rfl⟩,⟨by decide,_,rfl,?_⟩,trivial⟩⟩
       show RenB _ _ ⟨1,acc.map strC ++ [strC (⟨#[33]⟩++numS x.val)]⟩ ⟨1,(litsS c (pre.map (·.val) ++ [x.val])).map strC⟩
       have hp:=Zn (acc ++ [⟨#[33]⟩++numS x.val])
       rw [hsn,List.map_append]
       rw [List.map_append] at hp
       exact .same _ hp
   · rw [h1, if_pos rfl] at hsn
     (repeat'(first|refine Z6 18 ?_|refine Z2 18 ?_|refine st ?_|(apply B<;>intro hb<;>try cases hb)))<;>try refine At.mk ?_
     refine Zq (Z3f x.val (by omega)) rfl rfl rfl ⟨trivial,trivial⟩ ?_
     (repeat'(first|refine Z6 20 ?_|refine Z2 20 ?_|refine st ?_|(apply B<;>intro hb<;>try cases hb)))<;>try refine At.mk ?_
     refine Zo (ZP (k:=1) (m := [strC (numS x.val)]) (fl:=true) rfl rfl rfl (fun q hq=>by rw [List.mem_singleton] at hq; subst hq; rfl) rfl (by
      show ((acc.map strC).length+1)*16≤_
      rw [List.length_map];omega)) rfl rfl ?_
     (repeat'(first|refine Z6 24 ?_|refine Z2 24 ?_|refine st ?_|(apply B<;>intro hb<;>try cases hb)))<;>try refine At.mk ?_
     refine Z5 (Z6b c.2 hc.2 x.val) rfl rfl rfl ⟨Z0 _,trivial,trivial⟩ rfl ?_
     cases h2:c.2.testBit x.val
     · rw [h2, if_neg (by decide), List.append_nil] at hsn
       (refine go ?_;repeat' (apply B<;>intro hb<;>try cases hb))
       refine⟨.inl rfl,pre.map (·.val) ++ [x.val],mv 1 6,⟨rfl,by rw [List.map_append]; rfl⟩,Z3B (by decide),ZI rfl,
        ⟨⟨_,rfl,.pure _ (Z23 c)⟩,⟨_,rfl,.ptr (ρ:=mv 1 6) 0 0 0 (by decide)⟩,⟨_,rfl,.pure _ ⟨⟨Zc _,trivial⟩,trivial⟩⟩,trivial⟩,
        ⟨⟨by decide,_,rfl,RenB.single ⟨.own (ρ:=mv 1 6) 1 (by decide),trivial⟩ rfl⟩,⟨by decide,_,rfl,?_⟩,trivial⟩⟩
       show RenB _ _ ⟨1,acc.map strC ++ [strC (numS x.val)]⟩ ⟨1,(litsS c (pre.map (·.val) ++ [x.val])).map strC⟩
       have hp:=Zn (acc ++ [numS x.val])
       rw [hsn,List.map_append]
       rw [List.map_append] at hp
       exact .same _ hp
     · rw [h2, if_pos rfl] at hsn
       (repeat'(first|refine Z6 27 ?_|refine Z2 27 ?_|refine st ?_|(apply B<;>intro hb<;>try cases hb)))<;>try refine At.mk ?_
       refine Zq (Z3f x.val (by omega)) rfl rfl rfl ⟨trivial,trivial⟩ ?_
       refine Zo (hcat _ _ _ _ rfl) rfl rfl ?_
       (repeat'(first|refine Z6 30 ?_|refine Z2 30 ?_|refine st ?_|(apply B<;>intro hb<;>try cases hb)))<;>try refine At.mk ?_
       refine Zo (ZP (k:=6) (m := [strC (⟨#[33]⟩++numS x.val)]) (fl:=true) rfl rfl rfl (fun q hq=>by rw [List.mem_singleton] at hq; subst hq; rfl) rfl (by
        show ((acc.map strC ++ [strC (numS x.val)]).length+1)*16≤_
        rw [List.length_append,List.length_map,List.length_singleton];omega)) rfl rfl ?_
       (refine go ?_;repeat' (apply B<;>intro hb<;>try cases hb))
       refine⟨.inl rfl,pre.map (·.val) ++ [x.val],mv 1 13,⟨rfl,by rw [List.map_append]; rfl⟩,Z3B (by decide),ZI rfl,
        ⟨⟨_,rfl,.pure _ (Z23 c)⟩,⟨_,rfl,.ptr (ρ:=mv 1 13) 0 0 0 (by decide)⟩,⟨_,rfl,.pure _ ⟨⟨Zc _,trivial⟩,trivial⟩⟩,trivial⟩,
        ⟨⟨by decide,_,rfl,RenB.single ⟨.own (ρ:=mv 1 13) 1 (by decide),trivial⟩ rfl⟩,⟨by decide,_,rfl,?_⟩,trivial⟩⟩
       show RenB _ _ ⟨1,acc.map strC ++ [strC (numS x.val)] ++ [strC (⟨#[33]⟩++numS x.val)]⟩ ⟨1,(litsS c (pre.map (·.val) ++ [x.val])).map strC⟩
       have hp:=Zn (acc++([numS x.val] ++ [⟨#[33]⟩++numS x.val]))
       rw [hsn,List.map_append,List.map_append,← List.append_assoc]
       rw [List.map_append,List.map_append,← List.append_assoc] at hp
       exact .same _ hp
 · rintro xs z hxs ⟨-, rfl⟩
   rw [hxs]
   have hsz:=ZcG (c:=c) (rs:=mem M) fun r hr=>by have:=Z1G hr; omega
   have hll:=Z6j c (mem M)
   have hml:=Z1a M
   generalize litsS c (mem M)=l at hsz hll ⊢
   (repeat'(first|refine Z6 33 ?_|refine Z2 33 ?_|refine st ?_|(apply B<;>intro hb<;>try cases hb)))<;>try refine At.mk ?_
   cases l with
   | nil =>
     refine Za (ZU (v:=true) rfl rfl) rfl rfl ?_
     (refine go ?_;repeat' (apply B<;>intro hb<;>try cases hb))
     exact Z1 rfl trivial rfl
   | cons y l =>
     refine Za (ZU (v:=false) rfl (by simp;omega)) rfl rfl ?_
     repeat' (first|refine Z6 34 ?_|(first|refine st ?_|(apply B<;>intro hb<;>try cases hb)))
     refine At.mk ?_
     refine Zf (Z1D (ob:=0) (id:=1) (i0:=0) (j0:=0) rfl rfl (by decide) (Zn _) (Nat.le_of_ble_eq_true rfl) (Nat.le_of_ble_eq_true rfl) rfl) ?_
     (repeat'(first|refine Z6 35 ?_|refine Z2 35 ?_|refine st ?_|(apply B<;>intro hb<;>try cases hb)))<;>try refine At.mk ?_
     refine Z5 (Z2E (y :: l) false ⟨#[32]⟩ (by omega) (ZfX hsz (by omega) _ (by decide))) rfl rfl rfl ⟨Zn _,trivial,trivial⟩ rfl ?_
     (refine go ?_;repeat' (apply B<;>intro hb<;>try cases hb))
     exact Z1 rfl trivial (by rw [if_neg (by simp)])
 · rintro ex pre z - ⟨rfl,_⟩ (h|⟨id,h⟩)<;>cases h
end Go.Proofs.YtjpkfigmmmngnaaGreatDoor
namespace Go.Proofs.YtjpkfigmmmngnaaGreatDoor
open Go.RowKit
section
variable {P:Program} {C:Ctx} {Fr:Nat→Prop} {e:Env} {h:Heap} {F:Froz} {φ:Locs} {a:Act} {w:World}
theorem MSpec.frame {f:FuncId} {b:Bx} {rest:List PV} {mk:Nat→PV} {R:Bx→Prop} (hs:MSpec P f b rest mk R) (hmk:Mk mk) (hpb:pureLL b.elems) (hpr:pureL rest) {k n:Nat} (hb:h k=some b) :
 ISpec P f n (.own k :: rest) h fun n' r h'=>∃ b',n'=n+1∧r=mk n∧h'=(h.del k).upd n b'∧pureLL b'.elems∧R b':=by
 refine⟨hs.1,fun C e F φ a w vs s hv=>(hs.run hmk hpb hpr (Nat.le_refl n) hb s hv).mono ?_⟩
 rintro en w' ⟨v,b',F',φ',rfl,⟨h1,h2⟩,hr,s'⟩
 exact⟨v,mk n,n+1,(h.del k).upd n b',F',φ',rfl,⟨b',rfl,rfl,rfl,h1,h2⟩,hr,{ s' with free:=fun i hi=>s'.free i ⟨by omega,by omega⟩ }⟩
theorem Zap {f nt:Nat} {ac:ACode} {rs:List ARes} (hf:FnOk P f nt ac rs) {b:Bx} {rest:List PV} {mk:Nat→PV} {R:Bx→Prop} (hn:rest.length+1≤nt) (hk:∀ C:Ctx,C.dom 1→aw P C ac (retI rs fun n' r h'=>∃ id b',r=mk id∧h' id=some b'∧pureLL b'.elems∧R b') 1 (argEnv (.own 0 :: rest)) (heapL [(0,b)])):MSpec P f b rest mk R :=
 Z1K hf hn hk
theorem ZgX {f:Operand} {args:List Operand} {g:FuncId} {caps as0 rest:List PV} {b:Bx} {k:Nat} {mk:Nat→PV} {R:Bx→Prop} {d:Option Nat} {os:List AOper} {n:Nat} {K:Nat→Env→Heap→Prop} (hs:MSpec P g b rest mk R) (hmk:Mk mk) (hf:ev e f=some (.fn g caps)) (ha:evs e args=some as0) (hr:as0++caps=.own k :: rest) (hb:h k=some b) (hpb:pureLL b.elems) (hpr:pureL rest)
 (hk:∀ b',pureLL b'.elems→R b'→opsK P os (n+1) (updO e d (mk n)) ((h.del k).upd n b') K):opsK P (⟨d,.call f args,none⟩ :: os) n e h K:=by
 refine ZR hf ha (R:=fun n' r h'=>∃ b',n'=n+1∧r=mk n∧h'=(h.del k).upd n b'∧pureLL b'.elems∧R b') (by rw [hr]; exact hs.frame hmk hpb hpr hb) ?_
 rintro n' r h' ⟨b',rfl,rfl,rfl,h1,h2⟩
 exact hk b' h1 h2
end
end Go.Proofs.YtjpkfigmmmngnaaGreatDoor
namespace Go.Proofs.YtjpkfigmmmngnaaGreatDoor
open Go.RowKit
attribute [local irreducible] aw opsK dK
structure NamesW (tp:PV) (nm:Nat→ByteArray):Prop where
 one:tp.flat=true
 cell:tp.cells = [tp]
 pure:tp.pure
 len:∀ r,r<64→(nm r).data.toList.length≤100
 name:∀ r:Nat,r<64→∃ s b,Spec Tryz.prog 139 [tp,.val (.int .i64 (r:Int))] (· = .tup [.val (.string s),.val (.bool b)])∧nm r=if b then s else numS r
def partB (word:ByteArray) (N:Nat) (nm:Nat→ByteArray):ByteArray:=word++joinS ((mem N).map nm) ⟨#[32,97,110,100,32]⟩
theorem Z6l {l:List ByteArray} (h:∀ x∈l,x.data.toList.length≤100) (hl:l.length≤64) (sep:ByteArray) (hs:sep.data.toList.length≤10):(Go.Lib.join (l.map (·.data.toList)) sep.data.toList).length≤100000:=by
 cases l with
 | nil=>simp [Go.Lib.join_nil]
 | cons x l =>
   rw [List.map_cons,Go.Lib.join_length]
   have:=Zao (k:=100) (l:=(x :: l).map (·.data.toList)) fun y hy=>by
    obtain⟨z,hz,rfl⟩:=List.mem_map.1 hy
    exact h z hz
   rw [List.map_cons] at this
   simp only [List.length_cons,List.length_map] at this hl ⊢
   have h2:sep.data.toList.length*l.length≤10*l.length:=Nat.mul_le_mul_right _ hs
   omega
theorem bsize (x:ByteArray):x.size=x.data.toList.length:=by rw [Array.length_toList]; rfl
theorem Zbq {e:Env} {h:Heap} {n:Nat} {p q:Operand} {x y:ByteArray} (hp:ev e p=some (.val (.string x))) (hq:ev e q=some (.val (.string y))) (hx:x.size≤1000000) (hy:y.size≤1000000):dEval (.bin .add .num p q) e h n=some (.val (.string (x++y)),h):=by
 have hsz:x.size+y.size≤9223372036854775807:=by omega
 simp only [dEval,hp,hq,pbin,sbin,if_pos hsz,Option.map]
set_option maxHeartbeats 8000000 in
theorem Z76 {tp:PV} {nm:Nat→ByteArray} (hN:NamesW tp nm) (word:ByteArray) (hw:word.size≤100) (N:Nat) (h64:N<18446744073709551616) (hne:N≠0):NSpec Tryz.prog 99 [.vec [] true,.val (.string word),setN N,tp] .own ⟨1,[partB word N nm].map strC⟩:=by
 have htp:pureL [tp]:=⟨hN.pure,trivial⟩
 have hfl:=hN.one
 have hce:=hN.cell
 refine Z2N ok99 (Nat.le_of_ble_eq_true rfl) fun C hC=>?_
 refine Zi ?_
 refine Z9 ?_
 refine Z4 rfl rfl rfl ?_
 refine Z4 (show fEval (.box (.tmp 3)) _ _ _=some (.cp [tp],_) by (show (match some tp with|some p=>if p.flat&&decide (0<p.cells.length) then some (PV.cp p.cells,_) else none|none=>none)=_; simp only [hfl,hce]; rfl)) rfl rfl ?_
 (refine go ?_;repeat' (apply B<;>intro hb<;>try cases hb))
 refine Z5 (Z2z N h64) rfl rfl rfl ⟨Z0 N,trivial⟩ rfl ?_
 rw [decide_eq_false hne]
 (repeat'(first|refine Z6 17 ?_|refine Z2 17 ?_|refine st ?_|(apply B<;>intro hb<;>try cases hb)))<;>try refine At.mk ?_
 refine Zf (Z1v (id:=0) (i0:=0) (j0:=0) rfl (by decide) (by decide) rfl 1 (by decide) (by decide)) ?_
 refine Z5 (Z28 N) rfl rfl rfl ⟨Z0 _,trivial⟩ rfl ?_
 (refine go ?_;repeat' (apply B<;>intro hb<;>try cases hb))
 refine Z3o (X:=List Nat) hC (caps := [.cp [.vec (words (digs N)) false]]) [(0,.vec [] true),(1,.val (.string word)),(7,.cp [tp]),(9,.ptr 0 0 0),(17,.fn 70 [.cp [.vec (words (digs N)) false]])]
  (fun z => [(0,⟨1,[[.own 1]]⟩),(1,⟨1,((z.map nm).map strC)⟩)]) rfl ⟨⟨Zc _,trivial⟩,trivial⟩ (Z2L N h64) (fun _=>rfl)
  (fun ex pre z=>ex=.normal∧z=pre.map (·.val)) 2 (by decide) [] ⟨rfl,rfl⟩
  (Z41 (EnvQ.mem (ρ := fun i => i) (m := 2) (L := [(0, .vec [] true), (1, .val (.string word)), (7, .cp [tp]), (9, .ptr 0 0 0), (17, .fn 70 [.cp [.vec (words (digs N)) false]])]) ⟨⟨_, rfl, .pure _ trivial⟩, ⟨_, rfl, .pure _ trivial⟩, ⟨_, rfl, .pure _ htp⟩, ⟨_, rfl, .ptr (ρ := fun i => i) 0 0 0 (by decide)⟩, ⟨_, rfl, .pure _ ⟨⟨Zc _, trivial⟩, trivial⟩⟩, trivial⟩)
    (HeapQ.mem (ρ:=fun i=>i) (m:=2) (L := [(0,⟨1,[[.own 1]]⟩),(1,⟨1,((([]:List Nat).map nm).map strC)⟩)]) ⟨⟨by decide,_,rfl,RenB.single ⟨.own (ρ:=fun i=>i) 1 (by decide),trivial⟩ rfl⟩,⟨by decide,_,rfl,.same _ trivial⟩,trivial⟩) hC (by decide))
  (fun z q hq=>by simp at hq; rcases hq with rfl|rfl<;>exact Nat.zero_lt_succ _) _ (fun x=>rfl) ?_ ?_ ?_
 · rintro C2 hC2 pre x z ⟨-, rfl⟩ hlen
   have hx:=Z1G x.2
   have hml:=Z1a N
   obtain⟨s,b,hs1,hs2⟩:=hN.name x.val hx
   have hsn:(pre.map (·.val) ++ [x.val]).map nm=(pre.map (·.val)).map nm ++ [nm x.val]:=by rw [List.map_append]; rfl
   have hll:((pre.map (·.val)).map nm).length=pre.length:=by rw [List.length_map,List.length_map]
   generalize (pre.map (·.val)).map nm=acc at hsn hll ⊢
   rw [hs2] at hsn
   refine Z59 ?_
   (repeat'(first|refine Z6 20 ?_|refine Z2 20 ?_|refine st ?_|(apply B<;>intro hb<;>try cases hb)))<;>try refine At.mk ?_
   refine Za rfl rfl rfl ?_
   (refine go ?_;repeat' (apply B<;>intro hb<;>try cases hb))
   refine Z5 hs1 rfl rfl rfl ⟨hN.pure,trivial,trivial⟩ rfl ?_
   cases b
   · rw [if_neg (by decide)] at hsn
     (refine go ?_;repeat' (apply B<;>intro hb<;>try cases hb))
     refine Z5 (Z3f x.val (by omega)) rfl rfl rfl ⟨trivial,trivial⟩ rfl ?_
     (repeat'(first|refine Z6 32 ?_|refine Z2 32 ?_|refine st ?_|(apply B<;>intro hb<;>try cases hb)))<;>try refine At.mk ?_
     refine ZN (ZP (k:=1) (m := [strC (numS x.val)]) (fl:=true) (b:=⟨1,acc.map strC⟩) rfl rfl rfl (fun q hq=>by rw [List.mem_singleton] at hq; subst hq; rfl) rfl (by
      show ((acc.map strC).length+1)*16≤_
      rw [List.length_map];omega)) rfl rfl ?_
     (refine go ?_;repeat' (apply B<;>intro hb<;>try cases hb))
     exact⟨.inl rfl,pre.map (·.val) ++ [x.val],mv 1 2,⟨rfl,by rw [List.map_append]; rfl⟩,Z3B (by decide),ZI rfl,⟨⟨_,rfl,.pure _ trivial⟩,⟨_,rfl,.pure _ trivial⟩,⟨_,rfl,.pure _ htp⟩,⟨_,rfl,.ptr (ρ:=mv 1 2) 0 0 0 (by decide)⟩,⟨_,rfl,.pure _ ⟨⟨Zc _,trivial⟩,trivial⟩⟩,trivial⟩,⟨⟨by decide,_,rfl,RenB.single ⟨.own (ρ:=mv 1 2) 1 (by decide),trivial⟩ rfl⟩,⟨by decide,_,rfl,by rw [hsn,List.map_append]; exact .same ⟨1,acc.map strC ++ [numS x.val].map strC⟩ (by rw [← List.map_append]; exact Zn _)⟩,trivial⟩⟩
   · rw [if_pos rfl] at hsn
     (repeat'(first|refine Z6 32 ?_|refine Z2 32 ?_|refine st ?_|(apply B<;>intro hb<;>try cases hb)))<;>try refine At.mk ?_
     refine ZN (ZP (k:=1) (m := [strC s]) (fl:=true) (b:=⟨1,acc.map strC⟩) rfl rfl rfl (fun q hq=>by rw [List.mem_singleton] at hq; subst hq; rfl) rfl (by
      show ((acc.map strC).length+1)*16≤_
      rw [List.length_map];omega)) rfl rfl ?_
     (refine go ?_;repeat' (apply B<;>intro hb<;>try cases hb))
     exact⟨.inl rfl,pre.map (·.val) ++ [x.val],mv 1 2,⟨rfl,by rw [List.map_append]; rfl⟩,Z3B (by decide),ZI rfl,⟨⟨_,rfl,.pure _ trivial⟩,⟨_,rfl,.pure _ trivial⟩,⟨_,rfl,.pure _ htp⟩,⟨_,rfl,.ptr (ρ:=mv 1 2) 0 0 0 (by decide)⟩,⟨_,rfl,.pure _ ⟨⟨Zc _,trivial⟩,trivial⟩⟩,trivial⟩,⟨⟨by decide,_,rfl,RenB.single ⟨.own (ρ:=mv 1 2) 1 (by decide),trivial⟩ rfl⟩,⟨by decide,_,rfl,by rw [hsn,List.map_append]; exact .same ⟨1,acc.map strC ++ [s].map strC⟩ (by rw [← List.map_append]; exact Zn _)⟩,trivial⟩⟩
 · rintro xs z hxs ⟨-, rfl⟩
   rw [hxs]
   have hml:=Z1a N
   have hsz:∀ y∈(mem N).map nm,y.data.toList.length≤100:=fun y hy=>by
    obtain⟨r,hr,rfl⟩:=List.mem_map.1 hy
    exact hN.len r (Z1G hr)
   have hlen:((mem N).map nm).length≤64:=by rw [List.length_map]; exact hml
   have hjl:=Z6l hsz hlen ⟨#[32,97,110,100,32]⟩ (by decide)
   unfold partB
   generalize (mem N).map nm=ns at hsz hlen hjl ⊢
   (repeat'(first|refine Z6 35 ?_|refine Z2 35 ?_|refine st ?_|(apply B<;>intro hb<;>try cases hb)))<;>try refine At.mk ?_
   refine Zf (Z1D (ob:=0) (id:=1) (i0:=0) (j0:=0) rfl rfl (by decide) (Zn ns) (Nat.le_of_ble_eq_true rfl) (Nat.le_of_ble_eq_true rfl) rfl) ?_
   (repeat'(first|refine Z6 36 ?_|refine Z2 36 ?_|refine st ?_|(apply B<;>intro hb<;>try cases hb)))<;>try refine At.mk ?_
   refine Z5 (Z2E ns false ⟨#[32,97,110,100,32]⟩ (by omega) (by omega)) rfl rfl rfl ⟨Zn _,trivial,trivial⟩ rfl ?_
   have hJ:(joinS ns ⟨#[32,97,110,100,32]⟩).size≤1000000:=by
    rw [bsize]
    exact Nat.le_trans hjl (by decide)
   generalize joinS ns ⟨#[32,97,110,100,32]⟩=J at hJ ⊢
   refine Za (Zbq rfl rfl (by omega) hJ) rfl rfl ?_
   (repeat'(first|refine Z6 39 ?_|refine Z2 39 ?_|refine st ?_|(apply B<;>intro hb<;>try cases hb)))<;>try refine At.mk ?_
   refine Zf (Z15 (k:=33) rfl 1 (by decide)) ?_
   (refine go ?_;repeat' (apply B<;>intro hb<;>try cases hb))
   exact⟨_,_,rfl,.inl rfl,_,rfl,rfl⟩
 · rintro ex pre z - ⟨rfl,_⟩ (h|⟨id,h⟩)<;>cases h
set_option maxHeartbeats 8000000 in
theorem ZcI {tp:PV} {nm:Nat→ByteArray} (hN:NamesW tp nm) (l:List ByteArray) (hl:l.length≤1000) (word:ByteArray) (hw:word.size≤100) (N:Nat) (h64:N<18446744073709551616) (hne:N≠0):MSpec Tryz.prog 99 ⟨1,l.map strC⟩ [.val (.string word),setN N,tp] .own (fun b'=>b'=⟨1,(l ++ [partB word N nm]).map strC⟩):=by
 have htp:pureL [tp]:=⟨hN.pure,trivial⟩
 have hfl:=hN.one
 have hce:=hN.cell
 refine Zap ok99 (Nat.le_of_ble_eq_true rfl) fun C hC=>?_
 refine Zi ?_
 refine Z9 ?_
 refine Z4 rfl rfl rfl ?_
 refine Z4 (show fEval (.box (.tmp 3)) _ _ _=some (.cp [tp],_) by (show (match some tp with|some p=>if p.flat&&decide (0<p.cells.length) then some (PV.cp p.cells,_) else none|none=>none)=_; simp only [hfl,hce]; rfl)) rfl rfl ?_
 (refine go ?_;repeat' (apply B<;>intro hb<;>try cases hb))
 refine Z5 (Z2z N h64) rfl rfl rfl ⟨Z0 N,trivial⟩ rfl ?_
 rw [decide_eq_false hne]
 (repeat'(first|refine Z6 17 ?_|refine Z2 17 ?_|refine st ?_|(apply B<;>intro hb<;>try cases hb)))<;>try refine At.mk ?_
 refine Zf (Z1v (id:=1) (i0:=0) (j0:=0) rfl (by decide) (by decide) rfl 1 (by decide) (by decide)) ?_
 refine Z5 (Z28 N) rfl rfl rfl ⟨Z0 _,trivial⟩ rfl ?_
 (refine go ?_;repeat' (apply B<;>intro hb<;>try cases hb))
 refine Z3o (X:=List Nat) hC (caps := [.cp [.vec (words (digs N)) false]]) [(0,.own 0),(1,.val (.string word)),(7,.cp [tp]),(9,.ptr 1 0 0),(17,.fn 70 [.cp [.vec (words (digs N)) false]])]
  (fun z => [(0,⟨1,l.map strC⟩),(1,⟨1,[[.own 2]]⟩),(2,⟨1,((z.map nm).map strC)⟩)]) rfl ⟨⟨Zc _,trivial⟩,trivial⟩ (Z2L N h64) (fun _=>rfl)
  (fun ex pre z=>ex=.normal∧z=pre.map (·.val)) 3 (by decide) [] ⟨rfl,rfl⟩
  (Z41 (EnvQ.mem (ρ := fun i => i) (m := 3) (L := [(0, .own 0), (1, .val (.string word)), (7, .cp [tp]), (9, .ptr 1 0 0), (17, .fn 70 [.cp [.vec (words (digs N)) false]])]) ⟨⟨_, rfl, .own (ρ := fun i => i) 0 (by decide)⟩, ⟨_, rfl, .pure _ trivial⟩, ⟨_, rfl, .pure _ htp⟩, ⟨_, rfl, .ptr (ρ := fun i => i) 1 0 0 (by decide)⟩, ⟨_, rfl, .pure _ ⟨⟨Zc _, trivial⟩, trivial⟩⟩, trivial⟩)
    (HeapQ.mem (ρ:=fun i=>i) (m:=3) (L := [(0,⟨1,l.map strC⟩),(1,⟨1,[[.own 2]]⟩),(2,⟨1,((([]:List Nat).map nm).map strC)⟩)]) ⟨⟨by decide,_,rfl,.same _ (Zn l)⟩,⟨by decide,_,rfl,RenB.single ⟨.own (ρ:=fun i=>i) 2 (by decide),trivial⟩ rfl⟩,⟨by decide,_,rfl,.same _ trivial⟩,trivial⟩) hC (by decide))
  (fun z q hq=>by simp at hq; rcases hq with rfl|rfl|rfl<;>exact Nat.zero_lt_succ _) _ (fun x=>rfl) ?_ ?_ ?_
 · rintro C2 hC2 pre x z ⟨-, rfl⟩ hlen
   have hx:=Z1G x.2
   have hml:=Z1a N
   obtain⟨s,b,hs1,hs2⟩:=hN.name x.val hx
   have hsn:(pre.map (·.val) ++ [x.val]).map nm=(pre.map (·.val)).map nm ++ [nm x.val]:=by rw [List.map_append]; rfl
   have hll:((pre.map (·.val)).map nm).length=pre.length:=by rw [List.length_map,List.length_map]
   generalize (pre.map (·.val)).map nm=acc at hsn hll ⊢
   rw [hs2] at hsn
   refine Z59 ?_
   (repeat'(first|refine Z6 20 ?_|refine Z2 20 ?_|refine st ?_|(apply B<;>intro hb<;>try cases hb)))<;>try refine At.mk ?_
   refine Za rfl rfl rfl ?_
   (refine go ?_;repeat' (apply B<;>intro hb<;>try cases hb))
   refine Z5 hs1 rfl rfl rfl ⟨hN.pure,trivial,trivial⟩ rfl ?_
   cases b
   · rw [if_neg (by decide)] at hsn
     (refine go ?_;repeat' (apply B<;>intro hb<;>try cases hb))
     refine Z5 (Z3f x.val (by omega)) rfl rfl rfl ⟨trivial,trivial⟩ rfl ?_
     (repeat'(first|refine Z6 32 ?_|refine Z2 32 ?_|refine st ?_|(apply B<;>intro hb<;>try cases hb)))<;>try refine At.mk ?_
     refine ZN (ZP (k:=2) (m := [strC (numS x.val)]) (fl:=true) (b:=⟨1,acc.map strC⟩) rfl rfl rfl (fun q hq=>by rw [List.mem_singleton] at hq; subst hq; rfl) rfl (by
      show ((acc.map strC).length+1)*16≤_
      rw [List.length_map];omega)) rfl rfl ?_
     (refine go ?_;repeat' (apply B<;>intro hb<;>try cases hb))
     exact⟨.inl rfl,pre.map (·.val) ++ [x.val],mv 2 3,⟨rfl,by rw [List.map_append]; rfl⟩,Z3B (by decide),ZI rfl,⟨⟨_,rfl,.own (ρ:=mv 2 3) 0 (by decide)⟩,⟨_,rfl,.pure _ trivial⟩,⟨_,rfl,.pure _ htp⟩,⟨_,rfl,.ptr (ρ:=mv 2 3) 1 0 0 (by decide)⟩,⟨_,rfl,.pure _ ⟨⟨Zc _,trivial⟩,trivial⟩⟩,trivial⟩,⟨⟨by decide,_,rfl,.same _ (Zn l)⟩,⟨by decide,_,rfl,RenB.single ⟨.own (ρ:=mv 2 3) 2 (by decide),trivial⟩ rfl⟩,⟨by decide,_,rfl,by rw [hsn,List.map_append]; exact .same ⟨1,acc.map strC ++ [numS x.val].map strC⟩ (by rw [← List.map_append]; exact Zn _)⟩,trivial⟩⟩
   · rw [if_pos rfl] at hsn
     (repeat'(first|refine Z6 32 ?_|refine Z2 32 ?_|refine st ?_|(apply B<;>intro hb<;>try cases hb)))<;>try refine At.mk ?_
     refine ZN (ZP (k:=2) (m := [strC s]) (fl:=true) (b:=⟨1,acc.map strC⟩) rfl rfl rfl (fun q hq=>by rw [List.mem_singleton] at hq; subst hq; rfl) rfl (by
      show ((acc.map strC).length+1)*16≤_
      rw [List.length_map];omega)) rfl rfl ?_
     (refine go ?_;repeat' (apply B<;>intro hb<;>try cases hb))
     exact⟨.inl rfl,pre.map (·.val) ++ [x.val],mv 2 3,⟨rfl,by rw [List.map_append]; rfl⟩,Z3B (by decide),ZI rfl,⟨⟨_,rfl,.own (ρ:=mv 2 3) 0 (by decide)⟩,⟨_,rfl,.pure _ trivial⟩,⟨_,rfl,.pure _ htp⟩,⟨_,rfl,.ptr (ρ:=mv 2 3) 1 0 0 (by decide)⟩,⟨_,rfl,.pure _ ⟨⟨Zc _,trivial⟩,trivial⟩⟩,trivial⟩,⟨⟨by decide,_,rfl,.same _ (Zn l)⟩,⟨by decide,_,rfl,RenB.single ⟨.own (ρ:=mv 2 3) 2 (by decide),trivial⟩ rfl⟩,⟨by decide,_,rfl,by rw [hsn,List.map_append]; exact .same ⟨1,acc.map strC ++ [s].map strC⟩ (by rw [← List.map_append]; exact Zn _)⟩,trivial⟩⟩
 · rintro xs z hxs ⟨-, rfl⟩
   rw [hxs]
   have hml:=Z1a N
   have hsz:∀ y∈(mem N).map nm,y.data.toList.length≤100:=fun y hy=>by
    obtain⟨r,hr,rfl⟩:=List.mem_map.1 hy
    exact hN.len r (Z1G hr)
   have hlen:((mem N).map nm).length≤64:=by rw [List.length_map]; exact hml
   have hjl:=Z6l hsz hlen ⟨#[32,97,110,100,32]⟩ (by decide)
   unfold partB
   generalize (mem N).map nm=ns at hsz hlen hjl ⊢
   (repeat'(first|refine Z6 35 ?_|refine Z2 35 ?_|refine st ?_|(apply B<;>intro hb<;>try cases hb)))<;>try refine At.mk ?_
   refine Zf (Z1D (ob:=1) (id:=2) (i0:=0) (j0:=0) rfl rfl (by decide) (Zn ns) (Nat.le_of_ble_eq_true rfl) (Nat.le_of_ble_eq_true rfl) rfl) ?_
   (repeat'(first|refine Z6 36 ?_|refine Z2 36 ?_|refine st ?_|(apply B<;>intro hb<;>try cases hb)))<;>try refine At.mk ?_
   refine Z5 (Z2E ns false ⟨#[32,97,110,100,32]⟩ (by omega) (by omega)) rfl rfl rfl ⟨Zn _,trivial,trivial⟩ rfl ?_
   have hJ:(joinS ns ⟨#[32,97,110,100,32]⟩).size≤1000000:=by
    rw [bsize]
    exact Nat.le_trans hjl (by decide)
   generalize joinS ns ⟨#[32,97,110,100,32]⟩=J at hJ ⊢
   refine Za (Zbq rfl rfl (by omega) hJ) rfl rfl ?_
   (repeat'(first|refine Z6 39 ?_|refine Z2 39 ?_|refine st ?_|(apply B<;>intro hb<;>try cases hb)))<;>try refine At.mk ?_
   refine ZN (ZP (k:=0) (m := [strC (word++J)]) (fl:=true) (b:=⟨1,l.map strC⟩) rfl rfl rfl (fun q hq=>by rw [List.mem_singleton] at hq; subst hq; rfl) rfl (by
    show ((l.map strC).length+1)*16≤_
    rw [List.length_map];omega)) rfl rfl ?_
   (refine go ?_;repeat' (apply B<;>intro hb<;>try cases hb))
   exact⟨_,_,rfl,.inl rfl,_,⟨1,(l ++ [word++J]).map strC⟩,rfl,by rw [List.map_append]; rfl,Zn _,rfl⟩
 · rintro ex pre z - ⟨rfl,_⟩ (h|⟨id,h⟩)<;>cases h
theorem ZfY {r:Nat} (h:r<64):(numS r).data.toList.length≤100:=by have:=Z6k (k:=r) (by omega); omega
theorem namesNil:NamesW (.val (.pointer none)) numS where
 one:=rfl
 cell:=rfl
 pure:=trivial
 len:=fun r h=>ZfY h
 name:=fun r h=>by
  refine⟨⟨#[]⟩,false,?_,rfl⟩
  have hlen:Spec Tryz.prog 165 [.val (.pointer none)] (· = .val (.int .i64 0)):=by
   refine Z3 ok165 (Nat.le_of_ble_eq_true rfl) fun C hC=>?_
   (refine go ?_;repeat' (apply B<;>intro hb<;>try cases hb))
   exact Z1 rfl trivial rfl
  refine Z3 ok139 (Nat.le_of_ble_eq_true rfl) fun C hC=>?_
  (repeat'(first|refine Z6 7 ?_|refine Z2 7 ?_|refine st ?_|(apply B<;>intro hb<;>try cases hb)))<;>try refine At.mk ?_
  refine Zj rfl rfl rfl (fun hb=>?_) (fun hb=>?_)
  · (refine go ?_;repeat' (apply B<;>intro hb<;>try cases hb))
    exact Z1 rfl ⟨trivial,trivial,trivial⟩ rfl
  · have h1 : ¬ (r : Int) < 1 := of_decide_eq_false hb
    clear hb
    (refine go ?_;repeat' (apply B<;>intro hb<;>try cases hb))
    refine Z5 hlen rfl rfl rfl ⟨trivial,trivial⟩ rfl ?_
    refine Zs rfl ?_
    refine Za (ZU (v:=true) rfl (decide_eq_true (by omega))) rfl rfl ?_
    (refine go ?_;repeat' (apply B<;>intro hb<;>try cases hb))
    exact Z1 rfl ⟨trivial,trivial,trivial⟩ rfl
section
variable {tp:PV} {nm:Nat→ByteArray} (hN:NamesW tp nm)
include hN
theorem Z77 (word:ByteArray):Spec Tryz.prog 99 [.vec [] true,.val (.string word),setN 0,tp] (· = .vec [] true):=by
 have hfl:=hN.one
 have hce:=hN.cell
 refine Z3 ok99 (Nat.le_of_ble_eq_true rfl) fun C hC=>?_
 refine Zi ?_
 refine Z9 ?_
 refine Z4 rfl rfl rfl ?_
 refine Z4 (show fEval (.box (.tmp 3)) _ _ _=some (.cp [tp],_) by (show (match some tp with|some p=>if p.flat&&decide (0<p.cells.length) then some (PV.cp p.cells,_) else none|none=>none)=_; simp only [hfl,hce]; rfl)) rfl rfl ?_
 (refine go ?_;repeat' (apply B<;>intro hb<;>try cases hb))
 refine Z5 (Z2z 0 (by decide)) rfl rfl rfl ⟨Z0 0,trivial⟩ rfl ?_
 (refine go ?_;repeat' (apply B<;>intro hb<;>try cases hb))
 exact Z1 rfl trivial rfl
theorem Zaq {n k:Nat} {h:Heap} (hh:h n=none) (word:ByteArray):ISpec Tryz.prog 99 n [.own k,.val (.string word),setN 0,tp] h (fun n' r h'=>n'=n∧r=.own k∧h'=h):=by
 have hfl:=hN.one
 have hce:=hN.cell
 refine Z1K ok99 (Nat.le_of_ble_eq_true rfl) fun C hC=>?_
 refine Zi ?_
 refine Z9 ?_
 refine Z4 rfl rfl hh ?_
 refine Z4 (show fEval (.box (.tmp 3)) _ _ _=some (.cp [tp],_) by (show (match some tp with|some p=>if p.flat&&decide (0<p.cells.length) then some (PV.cp p.cells,_) else none|none=>none)=_; simp only [hfl,hce]; rfl)) rfl hh ?_
 refine Za rfl rfl hh ?_
 refine Z1g ?_
 refine Zi ?_
 refine Zi ?_
 refine Z9 ?_
 refine Za rfl rfl hh ?_
 refine Z5 (Z2z 0 (by decide)) rfl rfl rfl ⟨Z0 0,trivial⟩ hh ?_
 refine Z1g ?_
 refine Z7n rfl ?_
 refine Zi ?_
 refine Z9 ?_
 refine Za rfl rfl hh ?_
 refine Za rfl rfl hh ?_
 refine Z1g ?_
 refine Zdc ?_
 exact⟨_,_,rfl,.inl rfl,rfl,rfl,rfl⟩
def hasW:ByteArray:=⟨#[104,97,115,32]⟩
def lacksW:ByteArray:=⟨#[108,97,99,107,115,32]⟩
def partsW (c:Cu) (nm:Nat→ByteArray):List ByteArray:=(if c.1=0 then [] else [partB hasW c.1 nm])++(if c.2=0 then [] else [partB lacksW c.2 nm])
def sentW (c:Cu) (nm:Nat→ByteArray):ByteArray:=if partsW c nm = [] then ⟨#[97,110,121,32,114,111,108,101,115]⟩ else joinS (partsW c nm) ⟨#[44,32]⟩
theorem Z99 {word:ByteArray} (hw:word.data.toList.length≤100) (N:Nat):(partB word N nm).data.toList.length≤100100:=by
 have hml:=Z1a N
 have hsz:∀ y∈(mem N).map nm,y.data.toList.length≤100:=fun y hy=>by
  obtain⟨r,hr,rfl⟩:=List.mem_map.1 hy
  exact hN.len r (Z1G hr)
 have hjl:=Z6l hsz (by rw [List.length_map]; exact hml) ⟨#[32,97,110,100,32]⟩ (by decide)
 unfold partB
 rw [ByteArray.data_append,Array.toList_append,List.length_append]
 have:(joinS ((mem N).map nm) ⟨#[32,97,110,100,32]⟩).data.toList.length≤100000:=hjl
 omega
omit hN in
theorem Z87 {l:List ByteArray} (h:∀ x∈l,x.data.toList.length≤100100) (hl:l.length≤2):(Go.Lib.join (l.map (·.data.toList)) (⟨#[44,32]⟩:ByteArray).data.toList).length≤140737488355328:=by
 cases l with
 | nil=>simp [Go.Lib.join_nil]
 | cons x l =>
   rw [List.map_cons,Go.Lib.join_length]
   have:=Zao (k:=100100) (l:=(x :: l).map (·.data.toList)) fun y hy=>by
    obtain⟨z,hz,rfl⟩:=List.mem_map.1 hy
    exact h z hz
   rw [List.map_cons] at this
   simp only [List.length_cons,List.length_map] at this hl ⊢
   simp only [List.length_nil]
   omega
set_option maxHeartbeats 4000000 in
theorem ZcJ (c:Cu) (hc:Ok64 c):Spec Tryz.prog 51 [cuP c,tp] (· = .val (.string (sentW c nm))):=by
 obtain⟨y,z⟩:=c
 obtain⟨hy,hz⟩:y<18446744073709551616∧z<18446744073709551616:=hc
 have htp:=hN.pure
 have b1:=Z99 hN (word:=hasW) (by decide) y
 have b2:=Z99 hN (word:=lacksW) (by decide) z
 refine Z3 ok51 (Nat.le_of_ble_eq_true rfl) fun C hC=>?_
 refine Zi ?_
 refine Z9 ?_
 refine Z4 rfl rfl rfl ?_
 unfold sentW partsW
 dsimp only
 by_cases h1:y=0
 · subst h1
   rw [if_pos rfl,List.nil_append]
   (repeat'(first|refine Z6 8 ?_|refine Z2 8 ?_|refine st ?_|(apply B<;>intro hb<;>try cases hb)))<;>try refine At.mk ?_
   refine Za rfl rfl rfl ?_
   refine Z5 (Z77 hN hasW) rfl rfl rfl ⟨trivial,trivial,Z0 0,htp,trivial⟩ rfl ?_
   by_cases h2:z=0
   · subst h2
     (repeat'(first|refine Z6 13 ?_|refine Z2 13 ?_|refine st ?_|(apply B<;>intro hb<;>try cases hb)))<;>try refine At.mk ?_
     refine Za rfl rfl rfl ?_
     refine Z5 (Z77 hN lacksW) rfl rfl rfl ⟨trivial,trivial,Z0 0,htp,trivial⟩ rfl ?_
     (refine go ?_;repeat' (apply B<;>intro hb<;>try cases hb))
     exact Z1 rfl trivial rfl
   · rw [if_neg h2]
     (repeat'(first|refine Z6 13 ?_|refine Z2 13 ?_|refine st ?_|(apply B<;>intro hb<;>try cases hb)))<;>try refine At.mk ?_
     refine Za rfl rfl rfl ?_
     refine Z7J (Z76 hN lacksW (by decide) z hz h2) Z5q (Zn _) rfl rfl ⟨trivial,trivial,Z0 z,htp,trivial⟩ ?_
     (repeat'(first|refine Z6 18 ?_|refine Z2 18 ?_|refine st ?_|(apply B<;>intro hb<;>try cases hb)))<;>try refine At.mk ?_
     refine Zf (Zm (k:=5) (id:=0) (b:=⟨1,[partB lacksW z nm].map strC⟩) rfl rfl (Zn _)) ?_
     (repeat'(first|refine Z6 19 ?_|refine Z2 19 ?_|refine st ?_|(apply B<;>intro hb<;>try cases hb)))<;>try refine At.mk ?_
     refine Z5 (Z2E [partB lacksW z nm] false ⟨#[44,32]⟩ (by simp) (Z87 (fun x hx=>by rw [List.mem_singleton] at hx; subst hx; exact b2) (by simp))) rfl rfl rfl ⟨Zn _,trivial,trivial⟩ rfl ?_
     (refine go ?_;repeat' (apply B<;>intro hb<;>try cases hb))
     exact Z1 rfl trivial (by rw [if_neg (by simp)])
 · rw [if_neg h1]
   (repeat'(first|refine Z6 8 ?_|refine Z2 8 ?_|refine st ?_|(apply B<;>intro hb<;>try cases hb)))<;>try refine At.mk ?_
   refine Za rfl rfl rfl ?_
   refine Z7J (Z76 hN hasW (by decide) y hy h1) Z5q (Zn _) rfl rfl ⟨trivial,trivial,Z0 y,htp,trivial⟩ ?_
   by_cases h2:z=0
   · subst h2
     rw [if_pos rfl,List.append_nil]
     (repeat'(first|refine Z6 13 ?_|refine Z2 13 ?_|refine st ?_|(apply B<;>intro hb<;>try cases hb)))<;>try refine At.mk ?_
     refine Za rfl rfl rfl ?_
     refine ZR rfl rfl (Zaq hN (k:=0) rfl lacksW) ?_
     rintro n' x h' ⟨rfl,rfl,rfl⟩
     (repeat'(first|refine Z6 18 ?_|refine Z2 18 ?_|refine st ?_|(apply B<;>intro hb<;>try cases hb)))<;>try refine At.mk ?_
     refine Zf (Zm (k:=5) (id:=0) (b:=⟨1,[partB hasW y nm].map strC⟩) rfl rfl (Zn _)) ?_
     (repeat'(first|refine Z6 19 ?_|refine Z2 19 ?_|refine st ?_|(apply B<;>intro hb<;>try cases hb)))<;>try refine At.mk ?_
     refine Z5 (Z2E [partB hasW y nm] false ⟨#[44,32]⟩ (by simp) (Z87 (fun x hx=>by rw [List.mem_singleton] at hx; subst hx; exact b1) (by simp))) rfl rfl rfl ⟨Zn _,trivial,trivial⟩ rfl ?_
     (refine go ?_;repeat' (apply B<;>intro hb<;>try cases hb))
     exact Z1 rfl trivial (by rw [if_neg (by simp)])
   · rw [if_neg h2]
     (repeat'(first|refine Z6 13 ?_|refine Z2 13 ?_|refine st ?_|(apply B<;>intro hb<;>try cases hb)))<;>try refine At.mk ?_
     refine Za rfl rfl rfl ?_
     refine ZgX (k:=0) (ZcI hN [partB hasW y nm] (by simp) lacksW (by decide) z hz h2) Z5q rfl rfl rfl rfl (Zn _) ⟨trivial,Z0 z,htp,trivial⟩ ?_
     rintro b' hb' rfl
     (repeat'(first|refine Z6 18 ?_|refine Z2 18 ?_|refine st ?_|(apply B<;>intro hb<;>try cases hb)))<;>try refine At.mk ?_
     refine Zf (Zm (k:=5) (id:=1) (b:=⟨1,[partB hasW y nm,partB lacksW z nm].map strC⟩) rfl rfl (Zn _)) ?_
     (repeat'(first|refine Z6 19 ?_|refine Z2 19 ?_|refine st ?_|(apply B<;>intro hb<;>try cases hb)))<;>try refine At.mk ?_
     refine Z5 (Z2E [partB hasW y nm,partB lacksW z nm] false ⟨#[44,32]⟩ (by simp) (Z87 (fun x hx=>by
      rcases List.mem_cons.1 hx with rfl|hx
      · exact b1
      · rw [List.mem_singleton] at hx; subst hx; exact b2) (by simp))) rfl rfl rfl ⟨Zn _,trivial,trivial⟩ rfl ?_
     (refine go ?_;repeat' (apply B<;>intro hb<;>try cases hb))
     exact Z1 rfl trivial (by rw [if_neg (by simp)]; rfl)
end
def fmF:Fm:=.mk 11 0 [] [.mk 5 0 [1,2,3] [],.mk 1 1 [] []]
def fmG:Fm:=.mk 10 0 [] [.mk 4 0 [1] [],.mk 4 0 [2] []]
theorem ZeF:checkM fmF=0:=by decide +kernel
theorem ZeG:checkM fmG=0:=by decide +kernel
theorem ZfZ:vioL fmF = [(6,0),(10,0),(12,0)]:=by decide +kernel
theorem Zg0:vioL fmG = [(2,4)]:=by decide +kernel
theorem Zhm:firstC (vioL fmF) 14=some (6,0):=by rw [ZfZ]; decide +kernel
theorem Zhn:firstC (vioL fmG) 10=some (2,4):=by rw [Zg0]; decide +kernel
theorem Zbr {l:List Pr} {M:Nat} (hl:Small l) (hu:∀ a r,Up l a r↔a=4∧M.testBit r=true) {s:Nat} (hs:s<18446744073709551616) (h0:s.testBit 0=false):clo l s=s ||| (if s.testBit 4 then M else 0):=Nat.eq_of_testBit_eq fun r=>by
 rw [Bool.eq_iff_iff,ZgV hl hs,Nat.testBit_or,Bool.or_eq_true]
 constructor
 · rintro ⟨a, h1, h2, h3⟩
   rcases (Z67 hl r a).1 h3 with h4|rfl
   · obtain ⟨rfl, h5⟩ := (hu a r).1 h4
     rw [if_pos h1]; exact .inr h5
   · exact .inl h1
 · rintro (h1 | h1)
   · exact⟨r,h1,Nat.pos_of_ne_zero (n:=r) fun e=>by (rw [e,h0] at h1; cases h1),(Z67 hl r r).2 (.inr rfl)⟩
   · by_cases h4 : s.testBit 4 = true
     · rw [if_pos h4] at h1
       exact⟨4,h4,by decide,(Z67 hl r 4).2 (.inl ((hu 4 r).2 ⟨rfl,h1⟩))⟩
     · rw [if_neg h4,Nat.zero_testBit] at h1; cases h1
theorem ZhH (a r:Nat):Up [(4,1),(4,2)] a r↔a=4∧(6:Nat).testBit r=true:=by
 constructor
 · intro h
   induction h with
   | one h =>
     simp only [List.mem_cons,Prod.mk.injEq,List.not_mem_nil,or_false] at h
     rcases h with⟨rfl,rfl⟩|⟨rfl,rfl⟩<;>exact⟨rfl,by decide⟩
   | more _ k ih =>
     simp only [List.mem_cons,Prod.mk.injEq,List.not_mem_nil,or_false] at k
     rcases k with⟨rfl,rfl⟩|⟨rfl,rfl⟩<;>exact absurd ih.2 (by decide)
 · rintro ⟨rfl, h⟩
   have hr:r<3:=Nat.lt_of_not_le fun h3=>by
    rw [Nat.testBit_lt_two_pow (Nat.lt_of_lt_of_le (by decide:6<2 ^ 3) (Nat.pow_le_pow_right (by decide) h3))] at h; cases h
   match r,hr,h with
   | 0,_,h=>cases h
   | 1,_,_=>exact .one (by simp)
   | 2,_,_=>exact .one (by simp)
theorem ZhI (a r:Nat):Up [(4,2)] a r↔a=4∧(4:Nat).testBit r=true:=by
 constructor
 · intro h
   induction h with
   | one h =>
     simp only [List.mem_cons,Prod.mk.injEq,List.not_mem_nil,or_false] at h
     obtain⟨rfl,rfl⟩:=h
     exact⟨rfl,by decide⟩
   | more _ k ih =>
     simp only [List.mem_cons,Prod.mk.injEq,List.not_mem_nil,or_false] at k
     obtain⟨rfl,rfl⟩:=k
     exact absurd ih.2 (by decide)
 · rintro ⟨rfl, h⟩
   have hr:r<3:=Nat.lt_of_not_le fun h3=>by
    rw [Nat.testBit_lt_two_pow (Nat.lt_of_lt_of_le (by decide:4<2 ^ 3) (Nat.pow_le_pow_right (by decide) h3))] at h; cases h
   match r,hr,h with
   | 0,_,h=>cases h
   | 1,_,h=>cases h
   | 2,_,_=>exact .one (by simp)
theorem ZeH:Small [(4,1),(4,2)]:=fun p hp=>by
 simp only [List.mem_cons,List.not_mem_nil,or_false] at hp
 rcases hp with rfl|rfl<;>decide
theorem ZgY:Small [(4,2)]:=fun p hp=>by
 simp only [List.mem_cons,List.not_mem_nil,or_false] at hp
 subst hp; decide
theorem Zgi {s:Nat} (h:s ||| 24=24):s=0 ∨ s=8 ∨ s=16 ∨ s=24:=by
 have hlt:s<25:=Nat.lt_succ_of_le (by rw [← h]; exact Nat.left_le_or)
 have key:∀ s,s<25→s ||| 24=24→s=0 ∨ s=8 ∨ s=16 ∨ s=24:=by decide
 exact key s hlt h
theorem Zbs {s:Nat} (h:s ||| 20=20):s=0 ∨ s=4 ∨ s=16 ∨ s=20:=by
 have hlt:s<21:=Nat.lt_succ_of_le (by rw [← h]; exact Nat.left_le_or)
 have key:∀ s,s<21→s ||| 20=20→s=0 ∨ s=4 ∨ s=16 ∨ s=20:=by decide
 exact key s hlt h
theorem Zhw {s:Nat} (h:s ||| 24=24):gdR fmF [(4,1),(4,2)] 24 s=decide (s=16 ∨ s=24):=by
 unfold gdR
 rcases Zgi h with rfl|rfl|rfl|rfl
 all_goals
  rw [Zbr ZeH ZhH (by decide) (by decide)]
  decide +kernel
theorem Zhx {s:Nat} (h:s ||| 20=20):gdA fmG [(4,2)] 10 s=decide (s≠0):=by
 unfold gdA
 rcases Zbs h with rfl|rfl|rfl|rfl
 all_goals
  rw [Zbr ZgY ZhI (by decide) (by decide)]
  decide +kernel
theorem Zho:Mins (fun s=>s ||| 24=24) (gdR fmF [(4,1),(4,2)] 24) [16]:=⟨by simp,fun s=>by
 rw [List.mem_singleton]
 constructor
 · rintro rfl
   refine⟨by decide,by rw [Zhw (by decide)]; rfl,fun s' h1 h2=>?_⟩
   rw [Zhw h1] at h2
   rcases of_decide_eq_true h2 with rfl|rfl<;>decide +kernel
 · rintro ⟨h1, h2, h3⟩
   rw [Zhw h1] at h2
   rcases of_decide_eq_true h2 with rfl|rfl
   · rfl
   · have := h3 16 (by decide) (by rw [Zhw (by decide)]; rfl)
     exact absurd this (by decide +kernel)⟩
theorem Zhp:Mins (fun s=>s ||| 20=20) (gdA fmG [(4,2)] 10) [4,16]:=⟨by simp,fun s=>by
 rw [List.mem_cons,List.mem_singleton]
 constructor
 · rintro (rfl | rfl)
   all_goals
    refine⟨by decide,by rw [Zhx (by decide)]; rfl,fun s' h1 h2=>?_⟩
    rw [Zhx h1] at h2
    rcases Zbs h1 with rfl|rfl|rfl|rfl
    · cases h2
    all_goals decide +kernel
 · rintro ⟨h1, h2, h3⟩
   rw [Zhx h1] at h2
   rcases Zbs h1 with rfl|rfl|rfl|rfl
   · cases h2
   · exact .inl rfl
   · exact .inr rfl
   · have := h3 16 (by decide) (by rw [Zhx (by decide)]; rfl)
     exact absurd this (by decide +kernel)⟩
theorem Zhq:SortedK [16]:=List.pairwise_singleton _ _
theorem Zhr:SortedK [4,16]:=by
 unfold SortedK
 rw [List.pairwise_cons]
 refine⟨fun a ha=>?_,List.pairwise_singleton _ _⟩
 rw [List.mem_singleton] at ha
 subst ha
 decide +kernel
theorem Zgj:textB 16=⟨#[123,52,125]⟩:=by
 unfold textB
 rw [show mem 16 = [4] by decide +kernel]
 show (⟨(([123]++((if 1 < [(123:UInt8)].length then [32] else [])++Go.Lib.decDigits 4)) ++ [125]).toArray⟩:ByteArray)=_
 rw [Go.Lib.decDigits_one (by decide)]; rfl
theorem Zhs:textB 4=⟨#[123,50,125]⟩:=by
 unfold textB
 rw [show mem 4 = [2] by decide +kernel]
 show (⟨(([123]++((if 1 < [(123:UInt8)].length then [32] else [])++Go.Lib.decDigits 2)) ++ [125]).toArray⟩:ByteArray)=_
 rw [Go.Lib.decDigits_one (by decide)]; rfl
theorem Zht:numS 1=⟨#[49]⟩:=by unfold numS; rw [Go.Lib.decDigits_one (by decide)]; rfl
theorem Zhu:numS 2=⟨#[50]⟩:=by unfold numS; rw [Go.Lib.decDigits_one (by decide)]; rfl
theorem ZgZ:textS (6,0)=⟨#[49,32,50]⟩:=by
 have e1:mem ((6:Nat) ||| 0) = [1,2]:=by decide +kernel
 have h:litsS (6,0) [1,2] = [⟨#[49]⟩,⟨#[50]⟩]:=by
  unfold litsS litS
  simp only [List.flatMap_cons,List.flatMap_nil]
  rw [Zht,Zhu]
  rfl
 unfold textS
 show (if litsS (6,0) (mem (6 ||| 0)) = [] then _ else joinS (litsS (6,0) (mem (6 ||| 0))) ⟨#[32]⟩)=_
 rw [e1,h,if_neg (by simp)]
 rfl
theorem Zh0:sentW (2,4) numS=⟨#[104,97,115,32,49,44,32,108,97,99,107,115,32,50]⟩:=by
 have e1:mem (2:Nat) = [1]:=by decide +kernel
 have e2:mem (4:Nat) = [2]:=by decide +kernel
 have h:partsW (2,4) numS = [⟨#[104,97,115,32,49]⟩,⟨#[108,97,99,107,115,32,50]⟩]:=by
  show (if (2:Nat)=0 then [] else [partB hasW 2 numS])++(if (4:Nat)=0 then [] else [partB lacksW 4 numS])=_
  rw [if_neg (by decide),if_neg (by decide)]
  unfold partB
  rw [e1,e2]
  simp only [List.map]
  rw [Zht,Zhu]
  rfl
 unfold sentW
 rw [h,if_neg (by simp)]
 rfl
section
variable {P:Program} {e:Env} {h:Heap} {n:Nat}
theorem Zbt {k:Nat} {p q:PV} (hk:e k=some p) (hr:RenP (fun i=>i) (fun _=>False) p q):SubA n e h n (e.upd k q) h:=by
 rintro C a w ⟨F,φ,s⟩
 refine⟨F,φ,{ s with env:=fun j r hq=>?_ }⟩
 by_cases hj:j=k
 · subst hj
   rw [Env.upd_same] at hq
   cases hq
   exact⟨(s.env j p hk).1,hr.rep (fun i x hd _=>hd.elim) (s.env j p hk).2⟩
 · rw [Env.upd_ne _ _ hj] at hq
   exact s.env j r hq
end
theorem Z6m (l:List Int) (N:Nat) (h:maskTo (topOf l) l=N) (fl:Bool):Spec Tryz.prog 48 [.vec (nums l) fl] (· = setN N):=h▸Z7p l fl
theorem Zg1:Made6 fmF:=⟨⟨by decide +kernel,by decide +kernel⟩,by decide,by decide,by decide,by decide +kernel⟩
theorem Zg2:Made6 fmG:=⟨⟨by decide +kernel,by decide +kernel⟩,by decide,by decide,by decide,by decide +kernel⟩
theorem Z78 (S:List Nat) (b:Nat) (hb:1≤b∧b<64) (hab:4≠b):Spec Tryz.prog 53 [hierP [] S,.val (.int .i64 4),.val (.int .i64 (b:Int))] fun r=>∃ S',r=.tup [hierP [(4,b)] S',.val (.int .i64 0)]:=by
 refine (Z96 [] S 4 b (by decide) hb hab (fun p hp=>by cases hp) List.nodup_nil (by simp) ⟨fun x=>if x=4 then 0 else 1,fun p hp=>by
  rw [List.nil_append,List.mem_singleton] at hp
  subst hp
  simp [Ne.symm hab]⟩ (by decide)).mono ?_
 rintro r ⟨l',S',h1,h2,rfl⟩
 obtain rfl:=List.perm_singleton.1 h1
 exact⟨S',rfl⟩
theorem Zar (S:List Nat):Spec Tryz.prog 53 [hierP [(4,1)] S,.val (.int .i64 4),.val (.int .i64 2)] fun r=>∃ S',r=.tup [hierP [(4,1),(4,2)] S',.val (.int .i64 0)]:=by
 refine (Z96 [(4,1)] S 4 2 (by decide) (by decide) (by decide) (fun p hp=>ZeH p (by rw [List.mem_singleton] at hp; subst hp; simp)) (by simp) (by simp) ⟨fun x=>if x=4 then 0 else 1,fun p hp=>by
  rw [List.singleton_append] at hp
  simp only [List.mem_cons,List.not_mem_nil,or_false] at hp
  rcases hp with rfl|rfl<;>simp⟩ (by decide)).mono ?_
 rintro r ⟨l',S',h1,h2,rfl⟩
 rw [List.singleton_append] at h1
 have hl:=h1.length_eq
 match l',h1,h2,hl with
 | [x, y], h1, h2, _ =>
   have hx:x∈[((4,1):Pr),(4,2)]:=h1.mem_iff.1 (by simp)
   have hy:y∈[((4,1):Pr),(4,2)]:=h1.mem_iff.1 (by simp)
   have hs:=(List.pairwise_cons.1 h2).1 y (by simp)
   simp only [List.mem_cons,List.not_mem_nil,or_false] at hx hy
   rcases hx with rfl|rfl<;>rcases hy with rfl|rfl
   · simp at hs
   · exact⟨S',rfl⟩
   · simp at hs
   · simp at hs
theorem Zg3 {r:PV} (hr:RepR fmF 24 (gdR fmF [(4,1),(4,2)] 24) r):∃ fl,r=.tup [.vec [stC 16] fl,.val (.int .i64 0)]:=by
 cases hr with
 | bad h=>exact absurd ZeF h
 | sm _ hs =>
   cases hs with
   | many h=>exact absurd h (by decide +kernel)
   | found _ out fl hm hso =>
     obtain rfl:=Z90 hm Zho (fun s h=>by rcases Zgi h with rfl|rfl|rfl|rfl<;>decide) hso Zhq
     exact⟨fl,rfl⟩
theorem Zg4 {r:PV} (hr:RepR fmG (minusN 20 10) (gdA fmG [(4,2)] 10) r):∃ fl,r=.tup [.vec [stC 4,stC 16] fl,.val (.int .i64 0)]:=by
 have e:minusN 20 10=20:=by decide +kernel
 rw [e] at hr
 cases hr with
 | bad h=>exact absurd ZeG h
 | sm _ hs =>
   cases hs with
   | many h=>exact absurd h (by decide +kernel)
   | found _ out fl hm hso =>
     obtain rfl:=Z90 hm Zhp (fun s h=>by rcases Zbs h with rfl|rfl|rfl|rfl<;>decide) hso Zhr
     exact⟨fl,rfl⟩
def boxF:List PV := [.val (.int .u8 11),.val (.int .i64 0),.vec [] true,.vec [[.val (.int .u8 5),.val (.int .i64 0),.vec (nums [1,2,3]) true,.vec [] true],[.val (.int .u8 1),.val (.int .i64 1),.vec [] true,.vec [] true]] true]
def boxG:List PV := [.val (.int .u8 10),.val (.int .i64 0),.vec [] true,.vec [[.val (.int .u8 4),.val (.int .i64 0),.vec (nums [1]) true,.vec [] true],[.val (.int .u8 4),.val (.int .i64 0),.vec (nums [2]) true,.vec [] true]] true]
theorem Zbu:(PV.cp boxF).low=.cp (fC .u8 fmF):=rfl
theorem Zbv:(PV.cp boxG).low=.cp (fC .u8 fmG):=rfl
theorem ZeI:pureL boxF:=⟨trivial,trivial,trivial,⟨⟨trivial,trivial,Z7 _,trivial,trivial⟩,⟨trivial,trivial,trivial,trivial,trivial⟩,trivial⟩,trivial⟩
theorem ZeJ:pureL boxG:=⟨trivial,trivial,trivial,⟨⟨trivial,trivial,Z7 _,trivial,trivial⟩,⟨trivial,trivial,Z7 _,trivial,trivial⟩,trivial⟩,trivial⟩
theorem ZhE:RenP (fun i=>i) (fun _=>False) (.cp boxF) (.cp (fC .u8 fmF)):=Zbu▸RenP.low (.cp boxF) (by rw [Zbu]; exact Zg _ _)
theorem ZhF:RenP (fun i=>i) (fun _=>False) (.cp boxG) (.cp (fC .u8 fmG)):=Zbv▸RenP.low (.cp boxG) (by rw [Zbv]; exact Zg _ _)
set_option maxRecDepth 100000 in
set_option maxHeartbeats 16000000 in
theorem Z9a:Spec Tryz.prog 12 [] (· = .val (.bool true)):=by
 have hpf:=Zg .u8 fmF
 have hpg:=Zg .u8 fmG
 refine Z3 ok12 (Nat.le_of_ble_eq_true rfl) fun C hC=>?_
 (repeat'(first|refine Z6 22 ?_|refine Z2 22 ?_|refine st ?_|(apply B<;>intro hb<;>try cases hb)))<;>try refine At.mk ?_
 refine Zf (Z2p (k:=1) (l:=boxF) rfl rfl ZeI) ?_
 refine Zf (Zbt (k:=1) rfl ZhE) ?_
 (repeat'(first|refine Z6 29 ?_|refine Z2 29 ?_|refine st ?_|(apply B<;>intro hb<;>try cases hb)))<;>try refine At.mk ?_
 refine Zf (Z2p (k:=2) (l:=boxG) rfl rfl ZeJ) ?_
 refine Zf (Zbt (k:=2) rfl ZhF) ?_
 refine ZD rfl rfl Z51 trivial rfl ?_
 rintro r ⟨S0,rfl⟩
 (repeat'(first|refine Z6 30 ?_|refine Z2 30 ?_|refine st ?_|(apply B<;>intro hb<;>try cases hb)))<;>try refine At.mk ?_
 refine ZD rfl rfl (Z78 S0 1 (by decide) (by decide)) ⟨ZJ _ _,trivial,trivial,trivial⟩ rfl ?_
 rintro r ⟨S1,rfl⟩
 (repeat'(first|refine Z6 35 ?_|refine Z2 35 ?_|refine st ?_|(apply B<;>intro hb<;>try cases hb)))<;>try refine At.mk ?_
 refine ZD rfl rfl (Zar S1) ⟨ZJ _ _,trivial,trivial,trivial⟩ rfl ?_
 rintro r ⟨S2,rfl⟩
 (repeat'(first|refine Z6 39 ?_|refine Z2 39 ?_|refine st ?_|(apply B<;>intro hb<;>try cases hb)))<;>try refine At.mk ?_
 refine ZD rfl rfl Z51 trivial rfl ?_
 rintro r ⟨S3,rfl⟩
 (repeat'(first|refine Z6 40 ?_|refine Z2 40 ?_|refine st ?_|(apply B<;>intro hb<;>try cases hb)))<;>try refine At.mk ?_
 refine ZD rfl rfl (Z78 S3 2 (by decide) (by decide)) ⟨ZJ _ _,trivial,trivial,trivial⟩ rfl ?_
 rintro r ⟨S4,rfl⟩
 (repeat'(first|refine Z6 56 ?_|refine Z2 56 ?_|refine st ?_|(apply B<;>intro hb<;>try cases hb)))<;>try refine At.mk ?_
 refine Zq (Z6m [1,2,3] 14 (by decide +kernel) true) rfl rfl rfl ⟨Z7 _,trivial⟩ ?_
 (repeat'(first|refine Z6 57 ?_|refine Z2 57 ?_|refine st ?_|(apply B<;>intro hb<;>try cases hb)))<;>try refine At.mk ?_
 refine Zq (Z85 fmF (by decide) (by decide) 14 (by decide)) rfl rfl rfl ⟨hpf,Z0 _,trivial⟩ ?_
 rw [Zhm]
 (repeat'(first|refine Z6 63 ?_|refine Z2 63 ?_|refine st ?_|(apply B<;>intro hb<;>try cases hb)))<;>try refine At.mk ?_
 refine Zq (Z6m [1,3] 10 (by decide +kernel) true) rfl rfl rfl ⟨Z7 _,trivial⟩ ?_
 (repeat'(first|refine Z6 64 ?_|refine Z2 64 ?_|refine st ?_|(apply B<;>intro hb<;>try cases hb)))<;>try refine At.mk ?_
 refine Zq (Z85 fmG (by decide) (by decide) 10 (by decide)) rfl rfl rfl ⟨hpg,Z0 _,trivial⟩ ?_
 rw [Zhn]
 (repeat'(first|refine Z6 70 ?_|refine Z2 70 ?_|refine st ?_|(apply B<;>intro hb<;>try cases hb)))<;>try refine At.mk ?_
 refine Zq (Z6m [3,4] 24 (by decide +kernel) true) rfl rfl rfl ⟨Z7 _,trivial⟩ ?_
 (repeat'(first|refine Z6 72 ?_|refine Z2 72 ?_|refine st ?_|(apply B<;>intro hb<;>try cases hb)))<;>try refine At.mk ?_
 refine Z7k rfl rfl (.inl rfl) (Z84 Zg1.holdsW (by decide) (by decide) [(4,1),(4,2)] S2 24 (by decide) (by decide)) ⟨hpf,Z0 _,ZJ _ _,trivial⟩ ?_
 intro r hr
 obtain⟨fa,rfl⟩:∃ fl,r=.tup [.vec [stC 16] fl,.val (.int .i64 0)]:=Zg3 hr
 (repeat'(first|refine Z6 78 ?_|refine Z2 78 ?_|refine st ?_|(apply B<;>intro hb<;>try cases hb)))<;>try refine At.mk ?_
 refine Zq (Z6m [1,3] 10 (by decide +kernel) true) rfl rfl rfl ⟨Z7 _,trivial⟩ ?_
 (repeat'(first|refine Z6 80 ?_|refine Z2 80 ?_|refine st ?_|(apply B<;>intro hb<;>try cases hb)))<;>try refine At.mk ?_
 refine Zq (Z6m [2,4] 20 (by decide +kernel) true) rfl rfl rfl ⟨Z7 _,trivial⟩ ?_
 (repeat'(first|refine Z6 82 ?_|refine Z2 82 ?_|refine st ?_|(apply B<;>intro hb<;>try cases hb)))<;>try refine At.mk ?_
 refine Z7k rfl rfl (.inl rfl) (Z6g Zg2.holdsW (by decide) (by decide) [(4,2)] S4 10 20 (by decide) (by decide) (by decide)) ⟨hpg,Z0 _,Z0 _,ZJ _ _,trivial⟩ ?_
 intro r hr
 obtain⟨fb,rfl⟩:∃ fl,r=.tup [.vec [stC 4,stC 16] fl,.val (.int .i64 0)]:=Zg4 hr
 (repeat'(first|refine Z6 99 ?_|refine Z2 99 ?_|refine st ?_|(apply B<;>intro hb<;>try cases hb)))<;>try refine At.mk ?_
 refine Zs rfl ?_
 refine Z5 (ZcH (6,0) ⟨by decide,by decide⟩) rfl rfl rfl ⟨Z5g _,trivial⟩ rfl ?_
 rw [ZgZ]
 (repeat'(first|refine Z6 104 ?_|refine Z2 104 ?_|refine st ?_|(apply B<;>intro hb<;>try cases hb)))<;>try refine At.mk ?_
 refine Zs rfl ?_
 refine Z5 (ZcJ namesNil (2,4) ⟨by decide,by decide⟩) rfl rfl rfl ⟨Z5g _,trivial,trivial⟩ rfl ?_
 rw [Zh0]
 (repeat'(first|refine Z6 116 ?_|refine Z2 116 ?_|refine st ?_|(apply B<;>intro hb<;>try cases hb)))<;>try refine At.mk ?_
 refine Zs rfl ?_
 refine Z5 (Z4O 16 (by decide)) rfl rfl rfl ⟨Z0 _,trivial⟩ rfl ?_
 rw [Zgj]
 (repeat'(first|refine Z6 128 ?_|refine Z2 128 ?_|refine st ?_|(apply B<;>intro hb<;>try cases hb)))<;>try refine At.mk ?_
 refine Zs rfl ?_
 refine Z5 (Z4O 4 (by decide)) rfl rfl rfl ⟨Z0 _,trivial⟩ rfl ?_
 rw [Zhs]
 (repeat'(first|refine Z6 135 ?_|refine Z2 135 ?_|refine st ?_|(apply B<;>intro hb<;>try cases hb)))<;>try refine At.mk ?_
 refine Zs rfl ?_
 refine Z5 (Z4O 16 (by decide)) rfl rfl rfl ⟨Z0 _,trivial⟩ rfl ?_
 rw [Zgj]
 (refine go ?_;repeat' (apply B<;>intro hb<;>try cases hb))
 all_goals first|exact Z1 rfl trivial rfl|(exfalso; simp_all)
structure MadeW (f:Fm):Prop where
 wf:Wf f
 ty:typeM f.op=1
 depth:f.depth≤4
 size:f.size≤15
 i6:in6 1 f=true
theorem MadeW.six {f:Fm} (m:MadeW f):Made6 f:=⟨m.wf,m.ty,by have:=m.depth; omega,by have:=m.size; omega,m.i6⟩
theorem MadeW.ment {f:Fm} (m:MadeW f):∀ i,(mentF f).testBit i=true→1≤i∧i≤6:=Z5k f.depth f (Nat.le_refl _) m.wf m.i6
theorem MadeW.d1000 {f:Fm} (m:MadeW f):f.depth≤1000:=by have:=m.depth; omega
theorem MadeW.sbig {f:Fm} (m:MadeW f):f.size≤1099511627776:=by have:=m.size; omega
theorem Zh1 (l:List Nat):bys l=l.map fun (x:Nat) => [PV.val (.int .u8 (x:Int))]:=rfl
theorem Z88 (l:List Nat) (hl:Bytes l) (fl:Bool):Spec Tryz.prog 14 [.vec (bys l) fl] fun r=>∃ f,MadeW f∧r=.agg (fC .i64 f):=by
 have hnl:(bys l).length=l.length:=by simp [bys]
 have hmn:(if (24:Int)<((bys l).length:Int) then (24:Int) else ((bys l).length:Int))=((min l.length 24:Nat):Int):=by rw [hnl]; split<;>omega
 refine Z3 ok14 (Nat.le_of_ble_eq_true rfl) fun C hC=>?_
 (refine go ?_;repeat' (apply B<;>intro hb<;>try cases hb))
 refine Za (Zhz (xs:=l) (g:=fun (x:Nat) => [PV.val (.int .u8 (x:Int))]) rfl 0 (min l.length 24) rfl (by show some _=some _; rw [← hmn]) (Nat.zero_le _) (Nat.min_le_left _ _) (fun _=>rfl)) rfl rfl ?_
 rw [← Zh1,List.drop_zero]
 have hl2:Bytes (l.take (min l.length 24)):=fun x hx=>hl x (List.mem_of_mem_take hx)
 refine ZD rfl rfl (Za8 _ hl2 false 1) ⟨Z7N _,trivial,trivial,trivial⟩ rfl ?_
 rintro r ⟨f,wf,tf,df,sf,rfl,i6⟩
 (refine go ?_;repeat' (apply B<;>intro hb<;>try cases hb))
 exact Z1 rfl (Zg _ _) ⟨f,⟨wf,tf,df,sf,i6⟩,rfl⟩
theorem Z3g {f:Fm} (m:MadeW f):Spec Tryz.prog 13 [.agg (fC .i64 f)] (· = .agg (fC .u8 f)):=Z9b 4 f (m.wf.nice 4 f m.depth)
theorem low127 (s:Nat):s &&& 127<256:=Nat.lt_of_le_of_lt Nat.and_le_right (by decide)
theorem Zg5 {f:Fm} {S:Nat} {c:Cu} (h:firstC (vioL f) S=some c):Ok64 c:=Z7R f c (List.mem_of_find?_eq_some h)
theorem Z79 {f:Fm} (m:Made6 f) (S:Nat):holdB f S=(firstC (vioL f) S).isNone:=by
 rw [m.hold S,← ZgK m.check]
 cases h:firstC (vioL f) S with
 | none=>rw [Z2R.1 h]; rfl
 | some c =>
   cases hb:soC (vioL f) S with
   | true=>rfl
   | false=>rw [Z2R.2 hb] at h; cases h
theorem Zgk {f:Fm} (m:MadeW f) {S:Nat} (hS:S<256) {o:Option Cu} (h:firstC (vioL f) S=o):Spec Tryz.prog 30 [.agg (fC .u8 f),setN S] (· = ofWP o):=h▸Z85 f m.d1000 m.sbig S (by omega)
theorem ZeK {f:Fm} (m:MadeW f) {S:Nat} (hS:S<256) {o:Option Cu} (h:firstC (vioL f) S=o):Spec Tryz.prog 31 [.agg (fC .i64 f),.val (.int .u64 (S:Int))] (· = bestP o):=h▸Zev m.six m.ment S hS
theorem Z7a {f:Fm} (m:MadeW f) {S:Nat} {b:Bool} (h:holdB f S=b):Spec Tryz.prog 18 [.agg (fC .u8 f),setN S,.vec [] true] (· = .val (.bool b)):=h▸Z6d S f m.six
theorem Z9c (c:Cu) (hc:Ok64 c) (f1 f2:Bool):Spec Tryz.prog 32 [.vec [cuC c] f1,.vec [raC c] f2] (· = .val (.bool true)):=by
 have h:=ZdZ [c] [c] f1 f2 (fun x hx=>by rw [List.mem_singleton] at hx; subst hx; exact hc) (fun x hx=>by rw [List.mem_singleton] at hx; subst hx; exact hc)
 rwa [sameL.2 rfl] at h
set_option maxHeartbeats 8000000 in
theorem Z89 (p:List Nat) (s:Nat) (fl:Bool) (hp:Bytes p) (hs:s<18446744073709551616):Spec Tryz.prog 4 [.vec (bys p) fl,.val (.int .u64 (s:Int))] (· = .val (.bool true)):=by
 have h0:bits .and .u64 (s:Int) 127=((s &&& 127:Nat):Int):=ZfS s 127 hs (by decide)
 have hS:=low127 s
 refine Z3 ok4 (Nat.le_of_ble_eq_true rfl) fun C hC=>?_
 (repeat'(first|refine Z6 10 ?_|refine Z2 10 ?_|refine st ?_|(apply B<;>intro hb<;>try cases hb)))<;>try refine At.mk ?_
 refine Z5 Z9a rfl rfl rfl trivial rfl ?_
 (repeat'(first|refine Z6 13 ?_|refine Z2 13 ?_|refine st ?_|(apply B<;>intro hb<;>try cases hb)))<;>try refine At.mk ?_
 refine ZD rfl rfl (Z88 p hp fl) ⟨Z7N _,trivial⟩ rfl ?_
 rintro r ⟨f,m,rfl⟩
 have hpf:=Zg .i64 f
 have hpg:=Zg .u8 f
 (repeat'(first|refine Z6 16 ?_|refine Z2 16 ?_|refine st ?_|(apply B<;>intro hb<;>try cases hb)))<;>try refine At.mk ?_
 refine Z5 (Z3g m) rfl rfl rfl ⟨hpf,trivial⟩ rfl ?_
 (repeat'(first|refine Z6 19 ?_|refine Z2 19 ?_|refine st ?_|(apply B<;>intro hb<;>try cases hb)))<;>try refine At.mk ?_
 refine Z5 (Z4L (s &&& 127) (by omega)) rfl rfl (by rw [← h0]; rfl) ⟨trivial,trivial⟩ rfl ?_
 (repeat'(first|refine Z6 20 ?_|refine Z2 20 ?_|refine st ?_|(apply B<;>intro hb<;>try cases hb)))<;>try refine At.mk ?_
 cases ho:firstC (vioL f) (s &&& 127) with
 | none =>
   refine Z5 (Zgk m hS ho) rfl rfl rfl ⟨hpg,Z0 _,trivial⟩ rfl ?_
   (repeat'(first|refine Z6 27 ?_|refine Z2 27 ?_|refine st ?_|(apply B<;>intro hb<;>try cases hb)))<;>try refine At.mk ?_
   refine Z5 (ZeK m hS ho) rfl rfl (by rw [← h0]; rfl) ⟨hpf,trivial,trivial⟩ rfl ?_
   (repeat'(first|refine Z6 38 ?_|refine Z2 38 ?_|refine st ?_|(apply B<;>intro hb<;>try cases hb)))<;>try refine At.mk ?_
   refine Zs rfl ?_
   refine Z5 (Z9c (0,0) ⟨by decide,by decide⟩ true true) rfl rfl rfl ⟨ZQ [(0,0)],Z14 ZX [(0,0)],trivial⟩ rfl ?_
   (repeat'(first|refine Z6 43 ?_|refine Z2 43 ?_|refine st ?_|(apply B<;>intro hb<;>try cases hb)))<;>try refine At.mk ?_
   refine Zs rfl ?_
   refine Z5 (Z3g m) rfl rfl rfl ⟨hpf,trivial⟩ rfl ?_
   (repeat'(first|refine Z6 46 ?_|refine Z2 46 ?_|refine st ?_|(apply B<;>intro hb<;>try cases hb)))<;>try refine At.mk ?_
   refine Zs rfl ?_
   refine Z5 (Z4L (s &&& 127) (by omega)) rfl rfl (by rw [← h0]; rfl) ⟨trivial,trivial⟩ rfl ?_
   (repeat'(first|refine Z6 47 ?_|refine Z2 47 ?_|refine st ?_|(apply B<;>intro hb<;>try cases hb)))<;>try refine At.mk ?_
   refine Zs rfl ?_
   refine Z5 (Z7a m (b:=true) (by rw [Z79 m.six,ho]; rfl)) rfl rfl rfl ⟨hpg,Z0 _,trivial,trivial⟩ rfl ?_
   (refine go ?_;repeat' (apply B<;>intro hb<;>try cases hb))
   exact Z1 rfl trivial rfl
 | some c =>
   have hc:=Zg5 ho
   refine Z5 (Zgk m hS ho) rfl rfl rfl ⟨hpg,Z0 _,trivial⟩ rfl ?_
   (repeat'(first|refine Z6 27 ?_|refine Z2 27 ?_|refine st ?_|(apply B<;>intro hb<;>try cases hb)))<;>try refine At.mk ?_
   refine Z5 (ZeK m hS ho) rfl rfl (by rw [← h0]; rfl) ⟨hpf,trivial,trivial⟩ rfl ?_
   (repeat'(first|refine Z6 38 ?_|refine Z2 38 ?_|refine st ?_|(apply B<;>intro hb<;>try cases hb)))<;>try refine At.mk ?_
   refine Zs rfl ?_
   refine Z5 (Z9c c hc true true) rfl rfl rfl ⟨ZQ [c],Z14 ZX [c],trivial⟩ rfl ?_
   (repeat'(first|refine Z6 43 ?_|refine Z2 43 ?_|refine st ?_|(apply B<;>intro hb<;>try cases hb)))<;>try refine At.mk ?_
   refine Zs rfl ?_
   refine Z5 (Z3g m) rfl rfl rfl ⟨hpf,trivial⟩ rfl ?_
   (repeat'(first|refine Z6 46 ?_|refine Z2 46 ?_|refine st ?_|(apply B<;>intro hb<;>try cases hb)))<;>try refine At.mk ?_
   refine Zs rfl ?_
   refine Z5 (Z4L (s &&& 127) (by omega)) rfl rfl (by rw [← h0]; rfl) ⟨trivial,trivial⟩ rfl ?_
   (repeat'(first|refine Z6 47 ?_|refine Z2 47 ?_|refine st ?_|(apply B<;>intro hb<;>try cases hb)))<;>try refine At.mk ?_
   refine Zs rfl ?_
   refine Z5 (Z7a m (b:=false) (by rw [Z79 m.six,ho]; rfl)) rfl rfl rfl ⟨hpg,Z0 _,trivial,trivial⟩ rfl ?_
   (refine go ?_;repeat' (apply B<;>intro hb<;>try cases hb))
   exact Z1 rfl trivial rfl
end Go.Proofs.YtjpkfigmmmngnaaGreatDoor
namespace Go.Proofs.YtjpkfigmmmngnaaGreatDoor
open Go.ChangeShapes Go.WideShapes Go.ChangeAt Go.RowKit
theorem Zbw {α:Type} {enc:α→List PV} {Q:α→Prop}:∀ {ll:List (List PV)},(∀ l∈ll,∃ x,Q x∧l=enc x)→∃ xs:List α,(∀ x∈xs,Q x)∧ll=xs.map enc
 | [],_=>⟨[],fun _ h=>(by cases h),rfl⟩
 | l :: ll, h => by
   obtain⟨x,h1,rfl⟩:=h l (List.mem_cons_self ..)
   obtain⟨xs,h2,rfl⟩:=Zbw fun l hl=>h l (List.mem_cons_of_mem _ hl)
   refine⟨x :: xs,fun y hy=>?_,rfl⟩
   rcases List.mem_cons.1 hy with rfl|hy
   · exact h1
   · exact h2 y hy
theorem Zat {P:Program} {s t:TypeId}:∀ {ps:List PV},ShapeVs P [s,t] ps→∃ a b,ps = [a,b]∧ShapeV P s a∧ShapeV P t b
 | [a,b],⟨h1,h2,_⟩=>⟨a,b,rfl,h1,h2⟩
theorem Zhv {m:Int} (h:(Lit.int .u8 m).wf=true):∃ a:Nat,a<256∧m=(a:Int):=by
 simp only [Lit.wf,Bool.and_eq_true,decide_eq_true_eq] at h
 obtain⟨h1,h2⟩:=h
 have h3:m≤255:=h2
 have h4:0≤m:=h1
 exact⟨m.toNat,by omega,by omega⟩
theorem Zh2 {m:Int} (h:(Lit.int .u64 m).wf=true):∃ a:Nat,a<18446744073709551616∧m=(a:Int):=by
 simp only [Lit.wf,Bool.and_eq_true,decide_eq_true_eq] at h
 obtain⟨h1,h2⟩:=h
 have h3:m≤18446744073709551615:=h2
 have h4:0≤m:=h1
 exact⟨m.toNat,by omega,by omega⟩
theorem Zg6 {n:Nat} {l:List PV} (h:Shape Tryz.prog n 5 l):∃ x:Nat,x≤255∧l = [PV.val (.int .u8 (x:Int))]:=by
 obtain⟨m1,w1,e1⟩:=Z9e h (k:=.u8) (by kernel_rfl)
 obtain⟨x,hx,rfl⟩:=Zhv w1
 exact⟨x,by omega,e1⟩
theorem Zau {p:PV} (h:ShapeV Tryz.prog 22 p):∃ (l:List Nat) (fl:Bool),Bytes l∧p=.vec (bys l) fl:=by
 obtain⟨n,ll,fl,_,h2,rfl⟩:=Z9f h (e:=5) (by kernel_rfl)
 obtain⟨xs,h3,rfl⟩:=Zbw (enc:=fun (x:Nat) => [PV.val (.int .u8 (x:Int))]) (Q:=fun (x:Nat)=>x≤255) fun l hl=>Zg6 (h2 l hl)
 exact⟨xs,fl,h3,rfl⟩
theorem ZeL {p:PV} (h:ShapeV Tryz.prog 23 p):∃ s:Nat,s<18446744073709551616∧p=.val (.int .u64 (s:Int)):=by
 obtain⟨m,w,rfl⟩:=ZcK h (k:=.u64) (by kernel_rfl)
 obtain⟨x,hx,rfl⟩:=Zh2 w
 exact⟨x,hx,rfl⟩
theorem Z6u:∀ ps,ShapeVs Tryz.prog Tryz.f4.params.toList ps→pureL ps→Spec Tryz.prog 4 ps (· = .val (.bool true)):=by
 intro ps hs hp
 rw [show Tryz.f4.params.toList = [22,23] by kernel_rfl] at hs
 obtain⟨a,b,rfl,k0,k1⟩:=Zat hs
 obtain⟨x0,f0,h0,rfl⟩:=Zau k0
 obtain⟨x1,h1,rfl⟩:=ZeL k1
 exact Z89 x0 x1 f0 h0 h1
set_option maxRecDepth 100000 in
theorem Z56 (os:Os) (started:os.Started) (H:Type) (enc:TypeId×Value→H) :
 ReturnsInHanded {} Tryz.checked os 4 .any (fun w args=>(Rows.witnessOfSpec.pre enc Tryz.prog Tryz.f4 [] false w args∧laidMetH Tryz.prog laidV w)∧sizedMet enc Tryz.prog Tryz.f4 (OpenSpec.ofChange Rows.witnessOfSpec) false w args)
  (Rows.witnessOfSpec.post enc Tryz.prog Tryz.f4 false true false false):=by
 refine returnsInHanded_of_change_and (C:=Tryz.checked) (X:=fun w _=>laidMetH Tryz.prog laidV w) (fun _ _ _ hh h=>h.of_heap hh) own started (by kernel_rfl) Tryz.func4
  (ChangeSpec.witness_shaped (enc:=enc) (C:=Tryz.checked) (os:=os) (X:=fun w _=>laidMetH Tryz.prog laidV w) false (World.doorLaid Tryz.prog 400 os) #[.slice none 0 0,.int .u64 0] 8 rfl (World.shaped_of_RefB (by kernel_rfl) (by kernel_rfl)) (by kernel_rfl) (by kernel_rfl) (by kernel_rfl) (Zfz os _)) ?_
 intro W base args ds gs before hval hW _ hwt hL _
 exact Z8T (P:=Tryz.prog) (G:=partsG Tryz.prog Tryz.f4.params.toList) (by kernel_rfl) (Zhg (by kernel_rfl)) laidOut (Ze2 (by kernel_rfl)) (tb:=4) (by kernel_rfl) (by kernel_rfl) rfl (fun ds hd=>by
  match ds,hd with
  | [a,b],_=>exact⟨rfl,rfl,rfl⟩) Z6u W (ZfB hL) base args ds gs before hval hW hwt
theorem Z6o:Rows.WitnessOfSaid :=
 OpenClaim.holds_of_wide 4 Tryz.f4 rfl rfl rfl rfl rfl rfl rfl ⟨rfl,rfl,rfl,rfl,rfl⟩ rfl rfl rfl rfl rfl (by kernel_rfl) Tryz.func4 (by kernel_rfl)
  (of_decide_eq_true (by kernel_rfl)) (by unfold Func.isWrapper; first|(rw [if_pos (by decide +kernel)]; kernel_rfl)|(rw [if_neg (by decide +kernel)]; exact⟨rfl,rfl⟩))
  (fun os started H enc _=>Z56 os started H enc)
theorem witnessOf_card:Rows.WitnessOfCardSaid :=
 Claim7.holds_tied_plain_at .later [] [.data,.data,.data] true (true, "3b95f6944516eaa7af7441d5befe7852d094d3e59071218fbee46b50b6f9d4f3") true
  Z6o (fun _ h=>by cases h) (by kernel_rfl) (fun _ h=>by cases h) witnessOf_row_tie rfl ⟨rfl,rfl⟩ (by kernel_rfl) rfl
  (fun f fn hf hfn => by
    obtain rfl : f = 4 := Option.some.inj ((show Tryz.prog.funcNamed "arbac/arbaclaw21.WitnessOf" = some 4 by kernel_rfl).symm.trans hf) |>.symm
    obtain rfl:fn=Tryz.f4:=(Option.some.inj (Tryz.func4.symm.trans hfn)).symm
    exact⟨by kernel_rfl,fun j t ht=>by
     rw [show Tryz.f4.params = #[22,23] by kernel_rfl] at ht
     have hm:t∈[22,23]:=by simpa using Array.mem_of_getElem? ht
     have hall:([22,23].all fun u => !Tryz.prog.wantsStandIn u)=true:=by kernel_rfl
     exact (show Tryz.prog.wantsStandIn t=false by simpa using List.all_eq_true.1 hall t hm)⟩)
  (by kernel_rfl)
#print axioms witnessOf_card
end Go.Proofs.YtjpkfigmmmngnaaGreatDoor
