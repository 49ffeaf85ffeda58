/-
  Merged from the texts that this claim's theorem needs, part 7 of 8. No statement of the seat is proved here.
-/
import Derived.KernelRfl
import Derived.Lib.OthersKept
import Derived.SevenTiedAt
import Derived.Shelf.SlSortCmp.NoneTotal
import Derived.Shelf.Strconv.Itoa3
import Derived.Shelf.Strings.Builder1
import Derived.Shelf.Strings.BuilderF
import Derived.Shelf.Strings.BuilderK
import Derived.Shelf.Strings.OnBuilder
import Derived.TacticsInMore
import Derived.Test.YtjpkfigmmmngnaaGreatDoorCards
import Derived.Test.YtjpkfigmmmngnaaGreatDoorChecked
import Derived.Test.YtjpkfigmmmngnaaGreatDoorTie
import Derived.Test.YtjpkfigmmmngnaaGreatDoorMq5
set_option linter.unusedSimpArgs false
set_option linter.unusedVariables false
set_option linter.unusedSectionVars false
namespace Go.Proofs.YtjpkfigmmmngnaaGreatDoor
open Go.RowKit
attribute [local irreducible] aw opsK dK
def lexTail (a b:List Int):Int:=if a.length<b.length then -1 else if b.length<a.length then 1 else 0
def lexZ:List Int→List Int→Int
 | [],[]=>0
 | [],_ :: _ => -1
 | _ :: _,[]=>1
 | x :: xs,y :: ys=>if x<y then -1 else if y<x then 1 else lexZ xs ys
theorem Zgq:∀ (a b:List Nat),lexZ (intsN a) (intsN b)=lexI a b
 | [],[]=>rfl
 | [],_ :: _=>rfl
 | _ :: _,[]=>rfl
 | x :: xs, y :: ys => by
   have ih:=Zgq xs ys
   show (if (x:Int)<(y:Int) then -1 else if (y:Int)<(x:Int) then 1 else lexZ (intsN xs) (intsN ys))=if x<y then -1 else if y<x then 1 else lexI xs ys
   rw [ih]
   by_cases h1:x<y
   · rw [if_pos h1,if_pos (by omega)]
   · rw [if_neg h1, if_neg (by omega)]
     by_cases h2:y<x
     · rw [if_pos h2,if_pos (by omega)]
     · rw [if_neg h2,if_neg (by omega)]
theorem Zex {a b:List Int} {i:Nat} (h1:i<a.length) (h2:i<b.length):lexZ (a.drop i) (b.drop i)=if a[i]<b[i] then -1 else if b[i]<a[i] then 1 else lexZ (a.drop (i+1)) (b.drop (i+1)):=by
 rw [List.drop_eq_getElem_cons h1,List.drop_eq_getElem_cons h2,lexZ]
theorem ZfV:∀ {a b:List Int},a = [] ∨ b = []→lexZ a b=lexTail a b
 | [],[],_=>rfl
 | [],_ :: _,_=>by simp [lexZ,lexTail]
 | _ :: _,[],_=>by simp [lexZ,lexTail]
 | _ :: _,_ :: _,h=>by rcases h with h|h<;>cases h
set_option maxHeartbeats 4000000 in
theorem Z8q (a b:List Int) (f1 f2:Bool):Spec Tryz.prog 117 [.vec (nums a) f1,.vec (nums b) f2] (· = .val (.int .i64 (lexZ a b))):=by
 have hla:=ZB a
 have hlb:=ZB b
 refine Z3 ok117 (Nat.le_of_ble_eq_true rfl) fun C hC=>?_
 refine Z37 (k:=0) rfl fun hmax=>?_
 have hlm:a.length≤maxVec:=by rw [hla] at hmax; exact hmax
 (refine go ?_;repeat' (apply B<;>intro hb<;>try cases hb))
 refine Zr hC (fun i=>i≤a.length∧i≤b.length∧lexZ a b=lexZ (a.drop i) (b.drop i)) (fun i=>a.length-i) 0 (fun i => [(0,.vec (nums a) f1),(1,.vec (nums b) f2),(5,.val (.int .i64 (i:Int)))]) (fun _=>[]) (Nat.le_refl _) 0 ⟨Nat.zero_le _,Nat.zero_le _,rfl⟩
  ⟨⟨rfl,ZH _ _⟩,⟨rfl,ZH _ _⟩,⟨rfl,trivial⟩,trivial⟩ trivial ?_
 rintro i ⟨hi,hib,hlex⟩
 have hinc:IntKind.i64.wrap ((i:Int)+1)=((i+1:Nat):Int):=IntWalk.i64_in _ ⟨by omega,by simp only [maxVec] at hlm; omega⟩
 have stop:i=a.length ∨ i=b.length→lexZ a b=if a.length<b.length then -1 else if b.length<a.length then 1 else 0:=by
  intro h
  rw [hlex,ZfV (by rcases h with h|h<;>subst h<;>simp),lexTail]
  simp only [List.length_drop]
  by_cases h1:a.length<b.length
  · rw [if_pos h1,if_pos (by omega)]
  · rw [if_neg h1, if_neg (by omega)]
    by_cases h2:b.length<a.length
    · rw [if_pos h2,if_pos (by omega)]
    · rw [if_neg h2,if_neg (by omega)]
 (refine go ?_;repeat' (apply B<;>intro hb<;>try cases hb))
 · rename_i hA
   have hia:i<a.length:=by have:=of_decide_eq_true hA; rw [hla] at this; omega
   have hibl:i<b.length:=by have:=of_decide_eq_true hb; rw [hlb] at this; omega
   have hstep:=Zex hia hibl
   clear hb
   refine Zq (Zl (xs:=a) rfl rfl i rfl hia rfl) rfl rfl ?_
   (refine go ?_;repeat' (apply B<;>intro hb<;>try cases hb))
   refine Zq (Zl (xs:=b) rfl rfl i rfl hibl rfl) rfl rfl ?_
   (refine go ?_;repeat' (apply B<;>intro hb<;>try cases hb))
   · have t := of_decide_eq_true hb
     exact Z5 rfl trivial (by rw [hlex,hstep,if_pos t]; rfl)
   · have t := of_decide_eq_false hb
     rw [if_neg t] at hstep
     clear hb
     refine Zq (Zl (xs:=a) rfl rfl i rfl hia rfl) rfl rfl ?_
     (refine go ?_;repeat' (apply B<;>intro hb<;>try cases hb))
     refine Zq (Zl (xs:=b) rfl rfl i rfl hibl rfl) rfl rfl ?_
     (refine go ?_;repeat' (apply B<;>intro hb<;>try cases hb))
     · have u := of_decide_eq_true hb
       exact Z5 rfl trivial (by rw [hlex,hstep,if_pos u]; rfl)
     · have u := of_decide_eq_false hb
       rw [if_neg u] at hstep
       exact⟨i+1,⟨by omega,by omega,by rw [hlex,hstep]⟩,by omega,⟨⟨rfl,ZH _ _⟩,⟨rfl,ZH _ _⟩,⟨by show some _=some _; rw [hinc],trivial⟩,trivial⟩,trivial⟩
 · rename_i hA hB
   have e:=stop (.inr (by have:=of_decide_eq_false hB; rw [hlb] at this;omega))
   have t:=of_decide_eq_true hb
   rw [hla,hlb] at t
   exact Z5 rfl trivial (by rw [e,if_pos (by omega)]; rfl)
 · rename_i hA hB hL
   have e:=stop (.inr (by have:=of_decide_eq_false hB; rw [hlb] at this;omega))
   have t:=of_decide_eq_true hb
   rw [hla,hlb] at t
   exact Z5 rfl trivial (by rw [e,if_neg (by omega),if_pos (by omega)]; rfl)
 · rename_i hA hB hL
   have e:=stop (.inr (by have:=of_decide_eq_false hB; rw [hlb] at this;omega))
   have t:=of_decide_eq_false hb
   have u:=of_decide_eq_false hL
   rw [hla,hlb] at t u
   exact Z5 rfl trivial (by rw [e,if_neg (by omega),if_neg (by omega)]; rfl)
 · rename_i hA
   have e:=stop (.inl (by have:=of_decide_eq_false hA; rw [hla] at this;omega))
   have t:=of_decide_eq_true hb
   rw [hla,hlb] at t
   exact Z5 rfl trivial (by rw [e,if_pos (by omega)]; rfl)
 · rename_i hA hL
   have e:=stop (.inl (by have:=of_decide_eq_false hA; rw [hla] at this;omega))
   have t:=of_decide_eq_true hb
   rw [hla,hlb] at t
   exact Z5 rfl trivial (by rw [e,if_neg (by omega),if_pos (by omega)]; rfl)
 · rename_i hA hL
   have e:=stop (.inl (by have:=of_decide_eq_false hA; rw [hla] at this;omega))
   have t:=of_decide_eq_false hb
   have u:=of_decide_eq_false hL
   rw [hla,hlb] at t u
   exact Z5 rfl trivial (by rw [e,if_neg (by omega),if_neg (by omega)]; rfl)
theorem ZbB (a b:Nat) (ha:a<256) (hb:b<256):bits .and .u8 (a:Int) (b:Int)=((a &&& b:Nat):Int):=by
 have h1:(BitVec.ofInt 8 (a:Int)).toNat=a:=by rw [BitVec.ofInt_natCast,BitVec.toNat_ofNat]; exact Nat.mod_eq_of_lt (by omega)
 have h2:(BitVec.ofInt 8 (b:Int)).toNat=b:=by rw [BitVec.ofInt_natCast,BitVec.toNat_ofNat]; exact Nat.mod_eq_of_lt (by omega)
 show IntKind.u8.wrap ((BitVec.ofInt 8 (a:Int) &&& BitVec.ofInt 8 (b:Int)).toNat:Int)=_
 rw [BitVec.toNat_and,h1,h2]
 have:a &&& b≤a:=Nat.and_le_left
 exact IntWalk.u8_in _ ⟨by omega,by omega⟩
end Go.Proofs.YtjpkfigmmmngnaaGreatDoor
namespace Go.Proofs.YtjpkfigmmmngnaaGreatDoor
open Go.RowKit
theorem orSub {a b:Nat}:a ||| b=b↔∀ i,a.testBit i=true→b.testBit i=true:=by
 constructor
 · intro h i hi
   rw [← h,Nat.testBit_or,hi,Bool.true_or]
 · intro h
   refine Nat.eq_of_testBit_eq fun i=>?_
   rw [Nat.testBit_or]
   cases hi:a.testBit i with
   | true=>rw [h i hi]; rfl
   | false=>rw [Bool.false_or]
theorem ZfW {a b:Nat}:a &&& b=0↔∀ i,a.testBit i=true→b.testBit i=false:=by
 constructor
 · intro h i hi
   have h1:=congrArg (·.testBit i) h
   simp only [Nat.testBit_and,hi,Bool.true_and,Nat.zero_testBit] at h1
   exact h1
 · intro h
   refine Nat.eq_of_testBit_eq fun i=>?_
   rw [Nat.testBit_and,Nat.zero_testBit]
   cases hi:a.testBit i with
   | true=>rw [h i hi]; rfl
   | false=>rw [Bool.false_and]
noncomputable def sen (l:List Pr) (r:Nat):Nat:=abv l r ||| 2 ^ r
theorem Z6z {l:List Pr} (hl:Small l) (r a:Nat):(sen l r).testBit a=true↔Up l a r ∨ a=r:=by
 unfold sen
 rw [Nat.testBit_or,Bool.or_eq_true,Z6w hl,Nat.testBit_two_pow,decide_eq_true_eq,eq_comm (a:=r)]
theorem ZgY {l:List Pr} (hl:Small l) {s:Nat} (hs:s<18446744073709551616) (r:Nat):(clo l s).testBit r=true↔∃ a,s.testBit a=true∧1≤a∧(sen l r).testBit a=true:=by
 rw [ZgX s r hs]
 constructor
 · rintro ⟨a, h1, h2, h3⟩
   exact⟨a,h1,h2,(Z6z hl r a).2 ((Zat hl a r).1 h3 |>.imp (fun h=>h) fun h=>h.symm)⟩
 · rintro ⟨a, h1, h2, h3⟩
   exact⟨a,h1,h2,(Zat hl a r).2 ((Z6z hl r a).1 h3 |>.imp (fun h=>h) fun h=>h.symm)⟩
def subM:List Nat→Nat→Nat
 | [],_=>0
 | r :: l,m=>(if m.testBit 0 then 2 ^ r else 0) ||| subM l (m / 2)
theorem Z9d:∀ (l:List Nat) (r m:Nat),subM (l ++ [r]) m=subM l m ||| (if m.testBit l.length then 2 ^ r else 0)
 | [],r,m=>by simp [subM]
 | a :: l, r, m => by
   show (if m.testBit 0 then 2 ^ a else 0) ||| subM (l ++ [r]) (m / 2)=(if m.testBit 0 then 2 ^ a else 0) ||| subM l (m / 2) ||| (if m.testBit (l.length+1) then 2 ^ r else 0)
   rw [Z9d l r (m / 2),Nat.or_assoc,Nat.testBit_succ]
theorem Z4P:∀ (l:List Nat) (m i:Nat),(subM l m).testBit i=true↔∃ k,∃ h:k<l.length,l[k]=i∧m.testBit k=true
 | [],m,i=>by simp [subM]
 | a :: l, m, i => by
   show ((if m.testBit 0 then 2 ^ a else 0) ||| subM l (m / 2)).testBit i=true↔_
   rw [Nat.testBit_or,Bool.or_eq_true,Z4P l (m / 2) i]
   constructor
   · rintro (h | ⟨k, hk, h1, h2⟩)
     · by_cases hm : m.testBit 0 = true
       · rw [if_pos hm, Nat.testBit_two_pow, decide_eq_true_eq] at h
         exact⟨0,by simp,h,hm⟩
       · rw [if_neg hm,Nat.zero_testBit] at h; cases h
     · exact⟨k+1,by simp only [List.length_cons]; omega,h1,by rw [Nat.testBit_succ]; exact h2⟩
   · rintro ⟨k, hk, h1, h2⟩
     match k,hk,h1,h2 with
     | 0, _, h1, h2 =>
       left
       rw [if_pos h2,Nat.testBit_two_pow,decide_eq_true_eq]; exact h1
     | k + 1, hk, h1, h2 =>
       right
       exact⟨k,by simp only [List.length_cons] at hk; omega,h1,by rw [← Nat.testBit_succ]; exact h2⟩
theorem ZbC {l:List Nat} (hl:l.Nodup) (m:Nat) {k:Nat} (hk:k<l.length):(subM l m).testBit l[k]=m.testBit k:=by
 rw [Bool.eq_iff_iff,Z4P]
 constructor
 · rintro ⟨j, hj, h1, h2⟩
   obtain rfl:j=k:=by
    have hp:=List.pairwise_iff_getElem.1 (List.nodup_iff_pairwise_ne.1 hl)
    rcases Nat.lt_trichotomy j k with h|h|h
    · exact absurd h1 (hp j k hj hk h)
    · exact h
    · exact absurd h1.symm (hp k j hk hj h)
   exact h2
 · exact fun h=>⟨k,hk,rfl,h⟩
theorem ZfX {l:List Nat} (hl:l.Nodup) {m m':Nat} (h1:m<2 ^ l.length) (h2:m'<2 ^ l.length) (h:subM l m=subM l m'):m=m':=by
 refine Nat.eq_of_testBit_eq fun k=>?_
 by_cases hk:k<l.length
 · rw [← ZbC hl m hk,← ZbC hl m' hk,h]
 · have hp : 2 ^ l.length ≤ 2 ^ k := Nat.pow_le_pow_right (by decide) (by omega)
   rw [Nat.testBit_lt_two_pow (Nat.lt_of_lt_of_le h1 hp),Nat.testBit_lt_two_pow (Nat.lt_of_lt_of_le h2 hp)]
theorem Z6A:∀ (l:List Nat) (s:Nat),(∀ i,s.testBit i=true→i∈l)→∃ m,m<2 ^ l.length∧subM l m=s
 | [], s, h => ⟨0, by decide, Nat.eq_of_testBit_eq fun i => by
   rw [show subM [] 0=0 from rfl,Nat.zero_testBit]
   exact (Bool.eq_false_iff.2 fun hb=>by cases h i hb).symm⟩
 | a :: l, s, h => by
   by_cases ha:a∈l
   · obtain ⟨m, h1, h2⟩ := Z6A l s fun i hi => by
      rcases List.mem_cons.1 (h i hi) with rfl|h3
      · exact ha
      · exact h3
     refine⟨2*m,by rw [List.length_cons,Nat.pow_succ]; omega,?_⟩
     show (if (2*m).testBit 0 then 2 ^ a else 0) ||| subM l (2*m / 2)=s
     rw [show 2*m / 2=m by omega,h2,if_neg (by rw [Nat.testBit_zero]; simp),Nat.zero_or]
   · have hex : ∀ i, (s ^^^ (if s.testBit a then 2 ^ a else 0)).testBit i = (s.testBit i && !decide (a = i)) := fun i => by
      rw [Nat.testBit_xor]
      by_cases hsa:s.testBit a=true
      · rw [if_pos hsa, Nat.testBit_two_pow]
        by_cases hi:a=i
        · subst hi; rw [hsa]; simp
        · rw [decide_eq_false hi]; simp
      · rw [if_neg hsa, Nat.zero_testBit]
        by_cases hi:a=i
        · subst hi; rw [Bool.eq_false_iff.2 hsa]; simp
        · rw [decide_eq_false hi]; simp
     obtain⟨m,h1,h2⟩:=Z6A l (s ^^^ (if s.testBit a then 2 ^ a else 0)) fun i hi=>by
      rw [hex,Bool.and_eq_true] at hi
      rcases List.mem_cons.1 (h i hi.1) with rfl|h3
      · simp at hi
      · exact h3
     refine⟨2*m+(if s.testBit a then 1 else 0),by rw [List.length_cons,Nat.pow_succ]; split<;>omega,?_⟩
     show (if (2*m+(if s.testBit a then 1 else 0)).testBit 0 then 2 ^ a else 0) ||| subM l ((2*m+(if s.testBit a then 1 else 0)) / 2)=s
     have hd:(2*m+(if s.testBit a then 1 else 0)) / 2=m:=by split<;>omega
     have ht:(2*m+(if s.testBit a then 1 else 0)).testBit 0=s.testBit a:=by
      rw [Nat.testBit_zero]
      cases s.testBit a
      · simp
      · rw [if_pos rfl,show (2*m+1) % 2=1 by omega]; rfl
     rw [hd,ht,h2]
     refine Nat.eq_of_testBit_eq fun i=>?_
     rw [Nat.testBit_or,hex]
     by_cases hi:a=i
     · subst hi
       cases hsa:s.testBit a
       · simp
       · rw [if_pos rfl,Nat.testBit_two_pow]; simp
     · rw [decide_eq_false hi]
       cases hsa:s.testBit a
       · simp
       · rw [if_pos rfl,Nat.testBit_two_pow,decide_eq_false hi]; simp
structure Mins (S:Nat→Prop) (good:Nat→Bool) (out:List Nat):Prop where
 nd:out.Nodup
 iff:∀ s,s∈out↔S s∧good s=true∧∀ s',S s'→good s'=true→popK 64 s≤popK 64 s'
theorem Z6B {S:Nat→Prop} {good:Nat→Bool} (f:Nat→Nat):∀ (k:Nat) (s:Nat),f s≤k→S s→good s=true→∃ s,S s∧good s=true∧∀ s',S s'→good s'=true→f s≤f s'
 | 0,s,hk,h1,h2=>⟨s,h1,h2,fun s' _ _=>by omega⟩
 | k + 1, s, hk, h1, h2 => by
   by_cases h:∃ s',S s'∧good s'=true∧f s'<f s
   · obtain ⟨s', h3, h4, h5⟩ := h
     exact Z6B f k s' (by omega) h3 h4
   · exact⟨s,h1,h2,fun s' h3 h4=>Nat.le_of_not_lt fun h5=>h ⟨s',h3,h4,h5⟩⟩
theorem Mins.nil_iff {S:Nat→Prop} {good:Nat→Bool} {out:List Nat} (h:Mins S good out):out = []↔∀ s,S s→good s=false:=by
 constructor
 · intro he s hs
   refine Bool.eq_false_iff.2 fun hg=>?_
   obtain⟨m,h1,h2,h3⟩:=Z6B (S:=S) (good:=good) (popK 64) (popK 64 s) s (Nat.le_refl _) hs hg
   have:=(h.iff m).2 ⟨h1,h2,h3⟩
   rw [he] at this; cases this
 · intro hn
   refine List.eq_nil_iff_forall_not_mem.2 fun s hs=>?_
   obtain⟨h1,h2,_⟩:=(h.iff s).1 hs
   rw [hn s h1] at h2; cases h2
def smStep (good:Nat→Bool) (out:List Nat) (s:Nat):List Nat :=
 match out with
 | []=>if good s then [s] else []
 | a :: r=>if popK 64 a<popK 64 s then a :: r else if good s then (if popK 64 s<popK 64 a then [s] else a :: r ++ [s]) else a :: r
theorem Mins.step {S:Nat→Prop} {good:Nat→Bool} {out:List Nat} (h:Mins S good out) {s:Nat} (hs:¬ S s):Mins (fun x=>S x ∨ x=s) good (smStep good out s):=by
 have same:good s=false→Mins (fun x=>S x ∨ x=s) good out:=fun hg=>⟨h.nd,fun x=>by
  rw [h.iff x]
  constructor
  · rintro ⟨h1, h2, h3⟩
    refine⟨.inl h1,h2,fun s' hs' hg'=>?_⟩
    rcases hs' with hs' | rfl
    · exact h3 s' hs' hg'
    · rw [hg] at hg'; cases hg'
  · rintro ⟨h1, h2, h3⟩
    rcases h1 with h1|rfl
    · exact⟨h1,h2,fun s' hs' hg'=>h3 s' (.inl hs') hg'⟩
    · rw [hg] at h2; cases h2⟩
 match out,h,same with
 | [], h, same =>
   show Mins _ _ (if good s then [s] else [])
   cases hg:good s with
   | false=>exact same hg
   | true =>
     have hn:=h.nil_iff.1 rfl
     refine⟨by simp,fun x=>?_⟩
     rw [if_pos rfl,List.mem_singleton]
     constructor
     · rintro rfl
       refine⟨.inr rfl,hg,fun s' hs' hg'=>?_⟩
       rcases hs' with hs' | rfl
       · rw [hn s' hs'] at hg'; cases hg'
       · exact Nat.le_refl _
     · rintro ⟨h1 | h1, h2, h3⟩
       · rw [hn x h1] at h2; cases h2
       · exact h1
 | a :: r, h, same =>
   show Mins _ _ (if popK 64 a<popK 64 s then a :: r else if good s then (if popK 64 s<popK 64 a then [s] else a :: r ++ [s]) else a :: r)
   obtain⟨ha1,ha2,ha3⟩:=(h.iff a).1 (List.mem_cons_self ..)
   by_cases h1:popK 64 a<popK 64 s
   · rw [if_pos h1]
     refine⟨h.nd,fun x=>?_⟩
     rw [h.iff x]
     constructor
     · rintro ⟨h4, h5, h6⟩
       refine⟨.inl h4,h5,fun s' hs' hg'=>?_⟩
       rcases hs' with hs' | rfl
       · exact h6 s' hs' hg'
       · have:=h6 a ha1 ha2; omega
     · rintro ⟨h4 | rfl, h5, h6⟩
       · exact⟨h4,h5,fun s' hs' hg'=>h6 s' (.inl hs') hg'⟩
       · have:=h6 a (.inl ha1) ha2; omega
   rw [if_neg h1]
   cases hg:good s with
   | false=>exact same hg
   | true =>
     rw [if_pos rfl]
     by_cases h2:popK 64 s<popK 64 a
     · rw [if_pos h2]
       refine⟨by simp,fun x=>?_⟩
       rw [List.mem_singleton]
       constructor
       · rintro rfl
         refine⟨.inr rfl,hg,fun s' hs' hg'=>?_⟩
         rcases hs' with hs' | rfl
         · have:=ha3 s' hs' hg'; omega
         · exact Nat.le_refl _
       · rintro ⟨h4 | h4, h5, h6⟩
         · have := ha3 x h4 h5
           have:=h6 s (.inr rfl) hg
           omega
         · exact h4
     · rw [if_neg h2]
       have hsn:s ∉ a :: r:=fun hm=>hs ((h.iff s).1 hm).1
       refine⟨List.nodup_append.2 ⟨h.nd,by simp,fun x hx y hy=>by rw [List.mem_singleton] at hy; subst hy; exact fun e=>hsn (e▸hx)⟩,fun x=>?_⟩
       rw [List.mem_append,List.mem_singleton,h.iff x]
       constructor
       · rintro (⟨h4, h5, h6⟩ | rfl)
         · refine ⟨.inl h4, h5, fun s' hs' hg' => ?_⟩
           rcases hs' with hs' | rfl
           · exact h6 s' hs' hg'
           · have:=h6 a ha1 ha2; omega
         · refine ⟨.inr rfl, hg, fun s' hs' hg' => ?_⟩
           rcases hs' with hs' | rfl
           · have:=ha3 s' hs' hg'; omega
           · exact Nat.le_refl _
       · rintro ⟨h4 | rfl, h5, h6⟩
         · exact .inl ⟨h4,h5,fun s' hs' hg'=>h6 s' (.inl hs') hg'⟩
         · exact .inr rfl
theorem Mins.congr {S S':Nat→Prop} {good:Nat→Bool} {out:List Nat} (h:Mins S good out) (hS:∀ s,S s↔S' s):Mins S' good out:=⟨h.nd,fun s=>by
 rw [h.iff s,hS s]
 exact⟨fun ⟨a,b,c⟩=>⟨a,b,fun s' hs=>c s' ((hS s').2 hs)⟩,fun ⟨a,b,c⟩=>⟨a,b,fun s' hs=>c s' ((hS s').1 hs)⟩⟩⟩
theorem Mins.perm {S:Nat→Prop} {good:Nat→Bool} {out out':List Nat} (h:Mins S good out) (hp:out'.Perm out):Mins S good out':=⟨hp.nodup_iff.2 h.nd,fun s=>by rw [hp.mem_iff,h.iff s]⟩
theorem Mins.begin (good:Nat→Bool):Mins (fun _=>False) good []:=⟨List.nodup_nil,fun s=>by simp⟩
def tried (l:List Nat) (m:Nat) (s:Nat):Prop:=∃ j,j<m∧subM l j=s
theorem Zey {l:List Nat} (hl:l.Nodup) {m:Nat} (hm:m<2 ^ l.length):¬ tried l m (subM l m):=by
 rintro⟨j,hj,h⟩
 have:=ZfX hl (by omega) hm h
 omega
theorem ZcR (l:List Nat) (m s:Nat):tried l (m+1) s↔tried l m s ∨ s=subM l m:=by
 constructor
 · rintro ⟨j, hj, h⟩
   by_cases he:j=m
   · subst he; exact .inr h.symm
   · exact .inl ⟨j,by omega,h⟩
 · rintro (⟨j, hj, h⟩ | h)
   · exact⟨j,by omega,h⟩
   · exact⟨m,Nat.lt_succ_self m,h.symm⟩
theorem Zez {E:Nat} (hE:E<18446744073709551616) (s:Nat):tried (mem E) (2 ^ (mem E).length) s↔s ||| E=E:=by
 constructor
 · rintro ⟨j, _, rfl⟩
   refine orSub.2 fun i hi=>?_
   obtain⟨k,hk,h1,_⟩:=(Z4P _ _ _).1 hi
   exact (Z1P hE).1 (h1▸List.getElem_mem hk)
 · intro h
   exact Z6A (mem E) s fun i hi=>(Z1P hE).2 (orSub.1 h i hi)
def SortedK (l:List Nat):Prop:=l.Pairwise fun a b=>key a≤key b
theorem Z5s:∀ {l m:List Nat},(∀ a∈l,a<18446744073709551616)→SortedK l→SortedK m→l.Perm m→l=m
 | [],m,_,_,_,h=>(List.Perm.nil_eq h)
 | a :: l,[],_,_,_,h=>by have:=h.length_eq; simp at this
 | a :: l, b :: m, hx, h1, h2, h => by
   have h1':=List.pairwise_cons.1 h1
   have h2':=List.pairwise_cons.1 h2
   have hab:a=b:=by
    rcases List.mem_cons.1 (h.mem_iff.1 (List.mem_cons_self (a:=a) (l:=l))) with e|ha
    · exact e
    rcases List.mem_cons.1 (h.mem_iff.2 (List.mem_cons_self (a:=b) (l:=m))) with e|hb
    · exact e.symm
    have x1:=h1'.1 b hb
    have x2:=h2'.1 a ha
    exact Za2 (hx a (List.mem_cons_self ..)) (hx b (List.mem_cons_of_mem _ hb)) (by omega)
   subst hab
   rw [Z5s (fun x hm=>hx x (List.mem_cons_of_mem _ hm)) h1'.2 h2'.2 (List.Perm.cons_inv h)]
def posK (x:Nat):List Nat→Nat
 | []=>0
 | d :: l=>if key d<key x then posK x l+1 else 0
def putK (x:Nat) (l:List Nat):List Nat:=l.take (posK x l)++x :: l.drop (posK x l)
theorem ZeA (x:Nat):∀ l,posK x l≤l.length
 | []=>Nat.le_refl _
 | d :: l => by
   unfold posK
   have:=ZeA x l
   split
   · simp only [List.length_cons]; omega
   · exact Nat.zero_le _
theorem ZeB (x d:Nat) (l:List Nat):putK x (d :: l)=if key d<key x then d :: putK x l else x :: d :: l:=by
 unfold putK
 show (d :: l).take (if key d<key x then posK x l+1 else 0)++x :: (d :: l).drop (if key d<key x then posK x l+1 else 0)=_
 split<;>rfl
theorem Z9e (x:Nat) (l:List Nat):(putK x l).Perm (x :: l):=by
 unfold putK
 refine List.perm_middle.trans ?_
 rw [List.take_append_drop]
theorem Z6C (x:Nat):∀ l,SortedK l→SortedK (putK x l)
 | [],_=>List.pairwise_singleton _ _
 | d :: l, h => by
   obtain⟨h1,h2⟩:=List.pairwise_cons.1 h
   rw [ZeB]
   split
   · rename_i hlt
     refine List.pairwise_cons.2 ⟨fun y hy=>?_,Z6C x l h2⟩
     rcases List.mem_cons.1 ((Z9e x l).mem_iff.1 hy) with rfl|hy
     · omega
     · exact h1 y hy
   · rename_i hge
     refine List.pairwise_cons.2 ⟨fun y hy=>?_,h⟩
     rcases List.mem_cons.1 hy with rfl|hy
     · omega
     · have:=h1 y hy; omega
theorem Z9f {x:Nat}:∀ {l:List Nat} {i:Nat},i≤posK x l→(h:i<l.length)→(key l[i]<key x↔i<posK x l)
 | [],i,_,h=>absurd h (by simp)
 | d :: l, 0, hi, h => by
   show key d<key x↔0<(if key d<key x then posK x l+1 else 0)
   constructor
   · intro hd; rw [if_pos hd]; omega
   · intro hp
     by_cases hd:key d<key x
     · exact hd
     · rw [if_neg hd] at hp; omega
 | d :: l, i + 1, hi, h => by
   unfold posK at hi ⊢
   by_cases hd:key d<key x
   · rw [if_pos hd] at hi ⊢
     rw [List.getElem_cons_succ,Z9f (l:=l) (i:=i) (by omega) (by simpa using h)]
     omega
   · rw [if_neg hd] at hi; omega
structure AtSize (good:Nat→Bool) (fr size n:Nat) (out:List Nat):Prop where
 nd:out.Nodup
 so:SortedK out
 iff:∀ x,x∈out↔x<n∧x ||| fr=fr∧popK 64 x=size∧good x=true
theorem AtSize.begin (good:Nat→Bool) (fr size:Nat):AtSize good fr size 0 []:=⟨List.nodup_nil,List.Pairwise.nil,fun x=>by simp⟩
theorem AtSize.skip {good:Nat→Bool} {fr size n:Nat} {out:List Nat} (h:AtSize good fr size n out) (hn:¬ (n ||| fr=fr∧popK 64 n=size∧good n=true)):AtSize good fr size (n+1) out:=⟨h.nd,h.so,fun x=>by
 rw [h.iff x]
 constructor
 · rintro⟨a,b⟩; exact⟨by omega,b⟩
 · rintro ⟨a, b⟩
   by_cases hx:x=n
   · subst hx; exact absurd b hn
   · exact⟨by omega,b⟩⟩
theorem AtSize.put {good:Nat→Bool} {fr size n:Nat} {out:List Nat} (h:AtSize good fr size n out) (h1:n ||| fr=fr) (h2:popK 64 n=size) (h3:good n=true):AtSize good fr size (n+1) (putK n out):=by
 have hp:=Z9e n out
 refine⟨hp.nodup_iff.2 (List.nodup_cons.2 ⟨fun hm=>?_,h.nd⟩),Z6C n out h.so,fun x=>?_⟩
 · have:=((h.iff n).1 hm).1; omega
 · rw [hp.mem_iff, List.mem_cons, h.iff x]
   constructor
   · rintro (rfl | ⟨a, b⟩)
     · exact⟨by omega,h1,h2,h3⟩
     · exact⟨by omega,b⟩
   · rintro ⟨a, b⟩
     by_cases hx:x=n
     · exact .inl hx
     · exact .inr ⟨by omega,b⟩
theorem AtSize.nil_iff {good:Nat→Bool} {fr size n:Nat} {out:List Nat} (h:AtSize good fr size n out):out = []↔∀ x,x<n→x ||| fr=fr→popK 64 x=size→good x=false:=by
 constructor
 · intro he x h1 h2 h3
   refine Bool.eq_false_iff.2 fun hg=>?_
   have:=(h.iff x).2 ⟨h1,h2,h3,hg⟩
   rw [he] at this; cases this
 · intro hn
   refine List.eq_nil_iff_forall_not_mem.2 fun x hx=>?_
   obtain⟨h1,h2,h3,h4⟩:=(h.iff x).1 hx
   rw [hn x h1 h2 h3] at h4; cases h4
theorem Z7t {x fr n:Nat} (h:x ||| fr=fr) (hf:fr<n):x<n:=Nat.lt_of_le_of_lt (by rw [← h]; exact Nat.left_le_or) hf
theorem ZfY {x:Nat} (h:x<256):popK 64 x≤8:=by
 have h1:popK (8+56) x=popK 8 x+popK 56 (x / 2 ^ 8):=Z7Q 8 56 x
 rw [show x / 2 ^ 8=0 by omega,Z2g] at h1
 have:=Z7S 8 x
 show popK (8+56) x≤8
 omega
theorem AtSize.mins {good:Nat→Bool} {fr size:Nat} {out:List Nat} (hf:fr<256) (h:AtSize good fr size 256 out) (hne:out≠[]) (hlow:∀ x,x ||| fr=fr→popK 64 x<size→good x=false):Mins (fun s=>s ||| fr=fr) good out:=by
 refine⟨h.nd,fun x=>?_⟩
 rw [h.iff x]
 constructor
 · rintro ⟨h1, h2, h3, h4⟩
   refine⟨h2,h4,fun s' h5 h6=>Nat.le_of_not_lt fun h7=>?_⟩
   rw [h3] at h7
   rw [hlow s' h5 h7] at h6; cases h6
 · rintro ⟨h1, h2, h3⟩
   refine⟨Z7t h1 hf,h1,?_,h2⟩
   obtain⟨a,r,rfl⟩:=List.exists_cons_of_ne_nil hne
   obtain⟨a1,a2,a3,a4⟩:=(h.iff a).1 (List.mem_cons_self ..)
   have h5:=h3 a a2 a4
   have h6:¬ popK 64 x<size:=fun h7=>by rw [hlow x h1 h7] at h2; cases h2
   omega
theorem Z4Q {S:Nat→Prop} {good:Nat→Bool} {l m:List Nat} (h1:Mins S good l) (h2:Mins S good m) (hs:∀ s,S s→s<18446744073709551616) (s1:SortedK l) (s2:SortedK m):l=m :=
 Z5s (fun a ha=>hs a ((h1.iff a).1 ha).1) s1 s2 ((List.perm_ext_iff_of_nodup h1.nd h2.nd).2 fun x=>by rw [h1.iff,h2.iff])
def firstC (l:List Cu) (S:Nat):Option Cu:=l.find? fun c=>hoC c S
theorem Zaz {l:List Cu} {S:Nat}:firstC l S=none↔soC l S=false:=by
 unfold firstC soC
 rw [List.find?_eq_none,List.any_eq_false]
end Go.Proofs.YtjpkfigmmmngnaaGreatDoor
namespace Go.Proofs.YtjpkfigmmmngnaaGreatDoor
open Go.RowKit
attribute [local irreducible] aw opsK dK
theorem ZP (b:Bool):Spec Tryz.prog 158 [.val (.bool b)] (· = .val (.int .i64 (b2i b))):=by
 refine Z3 ok158 (Nat.le_of_ble_eq_true rfl) fun C hC=>?_
 cases b
 all_goals
  (refine go ?_;repeat' (apply B<;>intro hb<;>try cases hb))
  exact Z5 rfl trivial rfl
theorem Z7u {α:Type} {l:List α} {i:Nat} (hi:i<l.length):l.take (i+1)=l.take i ++ [l[i]]:=by rw [List.take_add_one,List.getElem?_eq_getElem hi]; rfl
theorem ZeC (l:List Int) (v:Int):nums l ++ [[PV.val (.int .i64 v)]]=nums (l ++ [v]):=by simp [nums]
theorem ZeD (N:Nat) (ms:List Int):∀ l:List Fm,evL N ms l=l.map (evM N ms)
 | []=>rfl
 | a :: l=>by rw [evL,ZeD N ms l,List.map_cons]
set_option maxHeartbeats 8000000 in
theorem Z9g (N:Nat):∀ (d:Nat) (f:Fm),f.depth≤d→Wf f→f.size≤1000→Spec Tryz.prog 127 [.agg (fC .i64 f),.val (.int .u64 (N:Int))] (· = .val (.int .i64 (evM N [] f))):=by
 intro d
 induction d with
 | zero=>intro f hf; rw [Fm.depth_eq] at hf; omega
 | succ d ih =>
   rintro⟨op,n,roles,args⟩ hf hw hsz
   have w:=hw.inv
   have hfd:=(Fm.mk op n roles args).depth_eq
   have hfs:=(Fm.mk op n roles args).size_eq
   rw [show (Fm.mk op n roles args).args=args from rfl] at hfd hfs
   have hlm:=Z1T args
   have hll:(args.map (cellsK .i64)).length=args.length:=by simp
   have hpu:∀ D,innL D (fC .i64 (.mk op n roles args)):=fun D=>Z5i .i64 _ D
   have hpp:=Zk .i64 (.mk op n roles args)
   refine Z3 ok127 (Nat.le_of_ble_eq_true rfl) fun C hC=>?_
   refine Zm ?_
   refine Za ?_
   refine Z6 rfl rfl rfl ?_
   repeat' (first|refine Ze (Z11 (k:=5) rfl 1 (by decide)) ?_|(first|refine st ?_|(apply B<;>intro hb<;>try cases hb)))
   refine Z1S hC (fun i=>i≤args.length) (fun i=>args.length-i) 1 (fun i => [(1,.val (.int .u64 (N:Int))),(2,.cp (fC .i64 (.mk op n roles args))),(5,.own 0),(12,.vec (args.map (cellsK .i64)) false),(13,.val (.int .i64 (args.length:Int))),(14,.val (.int .i64 (i:Int)))]) (fun i => [(0,⟨1,nums ((args.take i).map (evM N []))⟩)]) (by omega) 0 (Nat.zero_le _) (fun i=>i) (fun _ _=>rfl) ZL
    ⟨⟨_,rfl,.pure _ trivial⟩,⟨_,rfl,.pure _ hpp⟩,⟨_,rfl,.own 0 (by decide)⟩,⟨_,rfl,.pure _ (Z1M _ _)⟩,⟨_,by rw [← hll]; rfl,.pure _ trivial⟩,⟨_,rfl,.pure _ trivial⟩,trivial⟩ ⟨⟨by omega,_,rfl,.same _ trivial⟩,trivial⟩ ?_
   intro i hi
   have hinc:IntKind.i64.wrap ((i:Int)+1)=((i+1:Nat):Int):=IntWalk.i64_in _ ⟨by omega,by omega⟩
   (repeat'(first|refine Z2 15 ?_|refine Z1 15 ?_|refine st ?_|(apply B<;>intro hb<;>try cases hb)))<;>try refine At.mk ?_
   refine Zi rfl rfl rfl (fun hb=>?_) (fun hb=>?_)
   · have hil : i < args.length := by have := of_decide_eq_true hb; omega
     have hdl:=Z1c hil
     have hsl:=Z4q hil
     have htk:=Z7u hil
     obtain⟨wx,tx⟩:=w.arg args[i] (List.getElem_mem hil)
     have ihx:=ih args[i] (by omega) wx (by omega)
     clear hb
     (refine go ?_;repeat' (apply B<;>intro hb<;>try cases hb))
     refine Z7 (Zl (xs:=args) rfl rfl i rfl hil (ZA _ _)) rfl rfl ?_
     rw [ZI]
     (refine go ?_;repeat' (apply B<;>intro hb<;>try cases hb))
     refine Z4 ihx rfl rfl rfl ⟨Zk _ _,trivial,trivial⟩ rfl ?_
     (repeat'(first|refine Z2 23 ?_|refine Z1 23 ?_|refine st ?_|(apply B<;>intro hb<;>try cases hb)))<;>try refine At.mk ?_
     refine Zz (Zy (k:=0) (m := [[.val (.int .i64 (evM N [] args[i]))]]) (fl:=true) (b:=⟨1,nums ((args.take i).map (evM N []))⟩) rfl rfl rfl (fun c hc=>by rw [List.mem_singleton] at hc; subst hc; rfl) rfl (by
      show ((nums ((args.take i).map (evM N []))).length+1)*8≤_
      rw [ZB,List.length_map,List.length_take];omega)) rfl rfl ?_
     simp only
     rw [ZeC]
     (refine go ?_;repeat' (apply B<;>intro hb<;>try cases hb))
     refine⟨i+1,mv 0 2,hil,by omega,fun j hj=>absurd hj (Nat.not_lt_zero _),ZK rfl,⟨⟨_,rfl,.pure _ trivial⟩,⟨_,rfl,.pure _ hpp⟩,⟨_,rfl,.own 0 (by decide)⟩,⟨_,rfl,.pure _ (Z1M _ _)⟩,⟨_,rfl,.pure _ trivial⟩,⟨_,by show some _=some _; rw [hinc],.pure _ trivial⟩,trivial⟩,⟨⟨by omega,_,rfl,?_⟩,trivial⟩⟩
     rw [htk,List.map_append,List.map_singleton]
     exact .same _ (Z9 _)
   · have hil : i = args.length := by have := of_decide_eq_false hb; omega
     subst hil
     rw [List.take_length]
     clear hb
     (repeat'(first|refine Z2 26 ?_|refine Z1 26 ?_|refine st ?_|(apply B<;>intro hb<;>try cases hb)))<;>try refine At.mk ?_
     refine Ze (Zp (k:=5) rfl rfl (Z9 _)) ?_
     have hev:evM N [] (.mk op n roles args)=opM N [] op n roles (args.map (evM N [])):=by rw [evM,ZeD]
     rcases ops16 w.lo w.hi with rfl|rfl|rfl|h4|h4|rfl|rfl|rfl|rfl|rfl|rfl|rfl|rfl|rfl|rfl|rfl
     · (refine go ?_;repeat' (apply B<;>intro hb<;>try cases hb))
       exact Z5 rfl trivial (by rw [hev]; rfl)
     · (refine go ?_;repeat' (apply B<;>intro hb<;>try cases hb))
       exact Z5 rfl trivial (by rw [hev]; rfl)
     · (refine go ?_;repeat' (apply B<;>intro hb<;>try cases hb))
       exact Z5 rfl trivial (by rw [hev]; rfl)
     · subst h4
       have hl:=ZB roles
       have hmost:=w.most
       have hm8:roles.length≤8:=by
        have:(roles.length:Int)≤8:=Int.le_trans hmost (by decide)
        omega
       have hnp:∀ D,innLL D (nums roles):=fun D=>Zd (fun _ h=>h.elim) _ (Z9 _)
       (refine go ?_;repeat' (apply B<;>intro hb<;>try cases hb))
       refine Zr hC (fun i=>i≤roles.length) (fun i=>roles.length-i) 0 (fun i => [(1,.val (.int .u64 (N:Int))),(8,.val (.int .i64 (cntM N (roles.take i)))),(37,.vec (nums roles) false),(38,.val (.int .i64 (roles.length:Int))),(39,.val (.int .i64 (i:Int)))]) (fun _=>[]) (Nat.zero_le _) 0 (Nat.zero_le _)
        ⟨⟨rfl,trivial⟩,⟨rfl,trivial⟩,⟨rfl,hnp _⟩,⟨by rw [← hl]; rfl,trivial⟩,⟨rfl,trivial⟩,trivial⟩ trivial ?_
       intro i hi
       have hinc:IntKind.i64.wrap ((i:Int)+1)=((i+1:Nat):Int):=IntWalk.i64_in _ ⟨by omega,by omega⟩
       (repeat'(first|refine Z2 40 ?_|refine Z1 40 ?_|refine st ?_|(apply B<;>intro hb<;>try cases hb)))<;>try refine At.mk ?_
       refine Zi rfl rfl rfl (fun hb=>?_) (fun hb=>?_)
       · have hil : i < roles.length := by have := of_decide_eq_true hb; omega
         have hrr:=w.rng roles[i] (List.getElem_mem _)
         have c1:=Z4s (N:=N) hil
         have c2:=Z2J N (roles.take i)
         have c3:(roles.take i).length≤roles.length:=by rw [List.length_take]; omega
         clear hb
         (refine go ?_;repeat' (apply B<;>intro hb<;>try cases hb))
         refine Z7 (Zl (xs:=roles) (g:=fun x => [.val (.int .i64 x)]) rfl rfl i rfl hil rfl) rfl rfl ?_
         generalize roles[i]=r at c1 hrr ⊢
         obtain⟨q,rfl⟩:∃ q:Nat,r=(q:Int):=⟨r.toNat,by omega⟩
         have hq:q<64:=by omega
         rw [Int.toNat_natCast] at c1
         have hbit:b2i (N.testBit q)=((N / 2 ^ q % 2:Nat):Int):=by
          rw [Nat.testBit_eq_decide_div_mod_eq]
          rcases Nat.mod_two_eq_zero_or_one (N / 2 ^ q) with h|h<;>rw [h]<;>rfl
         have hw1:IntKind.i64.wrap ((N / 2 ^ q % 2:Nat):Int)=((N / 2 ^ q % 2:Nat):Int):=IntWalk.i64_in _ ⟨by omega,by omega⟩
         have hw2:IntKind.i64.wrap (cntM N (roles.take i)+((N / 2 ^ q % 2:Nat):Int))=cntM N (roles.take (i+1)):=by
          rw [c1,hbit]
          exact IntWalk.i64_in _ ⟨by omega,by omega⟩
         (repeat'(first|refine Z2 46 ?_|refine Z1 46 ?_|refine st ?_|(apply B<;>intro hb<;>try cases hb)))<;>try refine At.mk ?_
         refine Zn rfl rfl rfl (Z2y N q hq) ?_
         refine Zn rfl rfl rfl (Z23 N q) ?_
         refine Zn rfl rfl rfl hw1 ?_
         refine Zn rfl rfl rfl hw2 ?_
         (refine go ?_;repeat' (apply B<;>intro hb<;>try cases hb))
         exact⟨i+1,hil,by omega,⟨⟨rfl,trivial⟩,⟨rfl,trivial⟩,⟨rfl,hnp _⟩,⟨rfl,trivial⟩,⟨by show some _=some _; rw [hinc],trivial⟩,trivial⟩,trivial⟩
       · have hil : i = roles.length := by have := of_decide_eq_false hb; omega
         subst hil
         rw [List.take_length]
         clear hb
         (refine go ?_;repeat' (apply B<;>intro hb<;>try cases hb))
         exact Z5 rfl trivial (by rw [hev]; rfl)
     · subst h4
       have hl:=ZB roles
       have hmost:=w.most
       have hm8:roles.length≤8:=by
        have:(roles.length:Int)≤8:=Int.le_trans hmost (by decide)
        omega
       have hnp:∀ D,innLL D (nums roles):=fun D=>Zd (fun _ h=>h.elim) _ (Z9 _)
       (refine go ?_;repeat' (apply B<;>intro hb<;>try cases hb))
       refine Zr hC (fun i=>i≤roles.length) (fun i=>roles.length-i) 0 (fun i => [(1,.val (.int .u64 (N:Int))),(8,.val (.int .i64 (cntM N (roles.take i)))),(37,.vec (nums roles) false),(38,.val (.int .i64 (roles.length:Int))),(39,.val (.int .i64 (i:Int)))]) (fun _=>[]) (Nat.zero_le _) 0 (Nat.zero_le _)
        ⟨⟨rfl,trivial⟩,⟨rfl,trivial⟩,⟨rfl,hnp _⟩,⟨by rw [← hl]; rfl,trivial⟩,⟨rfl,trivial⟩,trivial⟩ trivial ?_
       intro i hi
       have hinc:IntKind.i64.wrap ((i:Int)+1)=((i+1:Nat):Int):=IntWalk.i64_in _ ⟨by omega,by omega⟩
       (repeat'(first|refine Z2 40 ?_|refine Z1 40 ?_|refine st ?_|(apply B<;>intro hb<;>try cases hb)))<;>try refine At.mk ?_
       refine Zi rfl rfl rfl (fun hb=>?_) (fun hb=>?_)
       · have hil : i < roles.length := by have := of_decide_eq_true hb; omega
         have hrr:=w.rng roles[i] (List.getElem_mem _)
         have c1:=Z4s (N:=N) hil
         have c2:=Z2J N (roles.take i)
         have c3:(roles.take i).length≤roles.length:=by rw [List.length_take]; omega
         clear hb
         (refine go ?_;repeat' (apply B<;>intro hb<;>try cases hb))
         refine Z7 (Zl (xs:=roles) (g:=fun x => [.val (.int .i64 x)]) rfl rfl i rfl hil rfl) rfl rfl ?_
         generalize roles[i]=r at c1 hrr ⊢
         obtain⟨q,rfl⟩:∃ q:Nat,r=(q:Int):=⟨r.toNat,by omega⟩
         have hq:q<64:=by omega
         rw [Int.toNat_natCast] at c1
         have hbit:b2i (N.testBit q)=((N / 2 ^ q % 2:Nat):Int):=by
          rw [Nat.testBit_eq_decide_div_mod_eq]
          rcases Nat.mod_two_eq_zero_or_one (N / 2 ^ q) with h|h<;>rw [h]<;>rfl
         have hw1:IntKind.i64.wrap ((N / 2 ^ q % 2:Nat):Int)=((N / 2 ^ q % 2:Nat):Int):=IntWalk.i64_in _ ⟨by omega,by omega⟩
         have hw2:IntKind.i64.wrap (cntM N (roles.take i)+((N / 2 ^ q % 2:Nat):Int))=cntM N (roles.take (i+1)):=by
          rw [c1,hbit]
          exact IntWalk.i64_in _ ⟨by omega,by omega⟩
         (repeat'(first|refine Z2 46 ?_|refine Z1 46 ?_|refine st ?_|(apply B<;>intro hb<;>try cases hb)))<;>try refine At.mk ?_
         refine Zn rfl rfl rfl (Z2y N q hq) ?_
         refine Zn rfl rfl rfl (Z23 N q) ?_
         refine Zn rfl rfl rfl hw1 ?_
         refine Zn rfl rfl rfl hw2 ?_
         (refine go ?_;repeat' (apply B<;>intro hb<;>try cases hb))
         exact⟨i+1,hil,by omega,⟨⟨rfl,trivial⟩,⟨rfl,trivial⟩,⟨rfl,hnp _⟩,⟨rfl,trivial⟩,⟨by show some _=some _; rw [hinc],trivial⟩,trivial⟩,trivial⟩
       · have hil : i = roles.length := by have := of_decide_eq_false hb; omega
         subst hil
         rw [List.take_length]
         clear hb
         (refine go ?_;repeat' (apply B<;>intro hb<;>try cases hb))
         exact Z5 rfl trivial (by rw [hev]; rfl)
     · obtain ⟨r, rfl⟩ := w.role (.inr rfl)
       have hrr:=w.rng r (by simp)
       (refine go ?_;repeat' (apply B<;>intro hb<;>try cases hb))
       exact Z5 rfl trivial (by rw [hev]; show _=PV.val (Value.int .i64 (memM [] r)); unfold memM; rw [if_pos (by show r≥0;omega)]; rfl)
     · obtain ⟨x, rfl⟩ := w.one
       obtain⟨wx,tx⟩:=w.arg x (by simp)
       obtain⟨⟨x1,x2⟩,x3⟩:=Z1y N [] x.depth x (Nat.le_refl _) wx
       rw [Z4t] at hsz
       (refine go ?_;repeat' (apply B<;>intro hb<;>try cases hb))
       have:IntKind.i64.wrap (1-evM N [] x)=1-evM N [] x:=IntWalk.i64_in _ ⟨by omega,by omega⟩
       exact Z5 rfl trivial (by rw [hev]; show PV.val (Value.int .i64 (IntKind.i64.wrap (1-evM N [] x)))=_; rw [this]; rfl)
     all_goals
      obtain⟨x,y,rfl⟩:=w.two (by decide)
      obtain⟨wx,tx⟩:=w.arg x (by simp)
      obtain⟨wy,ty⟩:=w.arg y (by simp)
      rw [Z4u] at hsz
      obtain⟨⟨x1,x2⟩,x3⟩:=Z1y N [] x.depth x (Nat.le_refl _) wx
      obtain⟨⟨y1,y2⟩,y3⟩:=Z1y N [] y.depth y (Nat.le_refl _) wy
      rw [Z7T _ _ _ _ _ _ (by decide)]
      rw [show [x,y].map (evM N []) = [evM N [] x,evM N [] y] from rfl]
      clear hev ih
      generalize evM N [] x=a at *
      generalize evM N [] y=b at *
     · rw [wantM, if_neg (by decide)] at tx ty
       rcases x3 tx with rfl|rfl<;>rcases y3 ty with rfl|rfl
       all_goals
        (repeat'(first|refine Z2 70 ?_|refine Z1 70 ?_|refine st ?_|(apply B<;>intro hb<;>try cases hb)))<;>try refine At.mk ?_
        first
         | refine Z4 (ZP true) rfl rfl rfl ⟨trivial,trivial⟩ rfl ?_
         | refine Z4 (ZP false) rfl rfl rfl ⟨trivial,trivial⟩ rfl ?_
        (refine go ?_;repeat' (apply B<;>intro hb<;>try cases hb))
        exact Z5 rfl trivial rfl
     · rw [wantM, if_neg (by decide)] at tx ty
       rcases x3 tx with rfl|rfl<;>rcases y3 ty with rfl|rfl
       all_goals
        (repeat'(first|refine Z2 83 ?_|refine Z1 83 ?_|refine st ?_|(apply B<;>intro hb<;>try cases hb)))<;>try refine At.mk ?_
        first
         | refine Z4 (ZP true) rfl rfl rfl ⟨trivial,trivial⟩ rfl ?_
         | refine Z4 (ZP false) rfl rfl rfl ⟨trivial,trivial⟩ rfl ?_
        (refine go ?_;repeat' (apply B<;>intro hb<;>try cases hb))
        exact Z5 rfl trivial rfl
     · rw [wantM, if_neg (by decide)] at tx ty
       rcases x3 tx with rfl|rfl<;>rcases y3 ty with rfl|rfl
       all_goals
        (repeat'(first|refine Z2 96 ?_|refine Z1 96 ?_|refine st ?_|(apply B<;>intro hb<;>try cases hb)))<;>try refine At.mk ?_
        first
         | refine Z4 (ZP true) rfl rfl rfl ⟨trivial,trivial⟩ rfl ?_
         | refine Z4 (ZP false) rfl rfl rfl ⟨trivial,trivial⟩ rfl ?_
        (refine go ?_;repeat' (apply B<;>intro hb<;>try cases hb))
        exact Z5 rfl trivial rfl
     · (repeat'(first|refine Z2 105 ?_|refine Z1 105 ?_|refine st ?_|(apply B<;>intro hb<;>try cases hb)))<;>try refine At.mk ?_
       refine Zq rfl rfl rfl ?_
       refine Zt (ZP (decide (a≤b))) rfl rfl rfl ⟨trivial,trivial⟩ ?_
       (refine go ?_;repeat' (apply B<;>intro hb<;>try cases hb))
       exact Z5 rfl trivial rfl
     · (repeat'(first|refine Z2 115 ?_|refine Z1 115 ?_|refine st ?_|(apply B<;>intro hb<;>try cases hb)))<;>try refine At.mk ?_
       refine Zq rfl rfl rfl ?_
       refine Zt (ZP (decide (a<b))) rfl rfl rfl ⟨trivial,trivial⟩ ?_
       (refine go ?_;repeat' (apply B<;>intro hb<;>try cases hb))
       exact Z5 rfl trivial rfl
     · (repeat'(first|refine Z2 125 ?_|refine Z1 125 ?_|refine st ?_|(apply B<;>intro hb<;>try cases hb)))<;>try refine At.mk ?_
       refine Zq rfl rfl rfl ?_
       refine Zt (ZP (decide (a≥b))) rfl rfl rfl ⟨trivial,trivial⟩ ?_
       (refine go ?_;repeat' (apply B<;>intro hb<;>try cases hb))
       exact Z5 rfl trivial rfl
     · (repeat'(first|refine Z2 135 ?_|refine Z1 135 ?_|refine st ?_|(apply B<;>intro hb<;>try cases hb)))<;>try refine At.mk ?_
       refine Zq rfl rfl rfl ?_
       refine Zt (ZP (decide (a>b))) rfl rfl rfl ⟨trivial,trivial⟩ ?_
       (refine go ?_;repeat' (apply B<;>intro hb<;>try cases hb))
       exact Z5 rfl trivial rfl
     · (repeat'(first|refine Z2 145 ?_|refine Z1 145 ?_|refine st ?_|(apply B<;>intro hb<;>try cases hb)))<;>try refine At.mk ?_
       refine Zq rfl rfl rfl ?_
       refine Zt (ZP (a == b)) rfl rfl rfl ⟨trivial,trivial⟩ ?_
       (refine go ?_;repeat' (apply B<;>intro hb<;>try cases hb))
       exact Z5 rfl trivial rfl
     · have : IntKind.i64.wrap (a + b) = a + b := IntWalk.i64_in _ ⟨by omega, by omega⟩
       (refine go ?_;repeat' (apply B<;>intro hb<;>try cases hb))
       exact Z5 rfl trivial (by show PV.val (Value.int .i64 (IntKind.i64.wrap (a+b)))=_; rw [this]; rfl)
theorem ZfZ (f:Fm) (s:Nat):(evM s [] f == 1)=holdB f s:=by unfold holdB; rw [Bool.eq_iff_iff]; simp
end Go.Proofs.YtjpkfigmmmngnaaGreatDoor
namespace Go.Proofs.YtjpkfigmmmngnaaGreatDoor
open Go.RowKit
theorem ZeE {x:Nat} (hx:x<18446744073709551616):popK 64 x=0↔x=0:=by
 rw [Z5J,List.length_eq_zero_iff,Zfr]
 exact Z3G hx
section
variable {E:Nat} {good:Nat→Bool} {out:List Nat} (hE:E<18446744073709551616) (h:Mins (fun s=>s ||| E=E) good out)
include hE h
theorem Mins.lt {s:Nat} (hs:s∈out):s<18446744073709551616:=Z7t ((h.iff s).1 hs).1 hE
theorem Mins.zero:good 0=true↔out = [0]:=by
 constructor
 · intro hg
   have hz:(0:Nat) ||| E=E:=Nat.zero_or E
   have hall:∀ s∈out,s=0:=fun s hs=>by
    have h1:=((h.iff s).1 hs).2.2 0 hz hg
    have h0:popK 64 0=0:=Z2g 64
    exact (ZeE (h.lt hE hs)).1 (by omega)
   have h0:0∈out:=(h.iff 0).2 ⟨hz,hg,fun s' _ _=>by rw [Z2g 64]; exact Nat.zero_le _⟩
   match out,h.nd,hall,h0 with
   | [a],_,hall,_=>rw [hall a (by simp)]
   | a :: b :: r, hn, hall, _ =>
     have h1:=hall a (by simp)
     have h2:=hall b (by simp)
     rw [h1,h2] at hn
     exact absurd (List.nodup_cons.1 hn).1 (by simp)
 · intro he
   exact ((h.iff 0).1 (by rw [he]; simp)).2.1
omit hE in
theorem Mins.size {s t:Nat} (hs:s∈out) (ht:t∈out):popK 64 s=popK 64 t:=by
 obtain⟨a1,a2,a3⟩:=(h.iff s).1 hs
 obtain⟨b1,b2,b3⟩:=(h.iff t).1 ht
 have:=a3 t b1 b2
 have:=b3 s a1 a2
 omega
theorem Mins.less {s:Nat} (hs:s∈out) {r:Nat} (hr:s.testBit r=true):good (minusN s (2 ^ r))=false:=by
 have hs64:=h.lt hE hs
 have hr64:r<64:=Nat.lt_of_not_le fun h8=>by
  rw [Nat.testBit_lt_two_pow (Nat.lt_of_lt_of_le hs64 (Nat.pow_le_pow_right (n:=2) (by decide) h8))] at hr; cases hr
 have hp:2 ^ r<18446744073709551616:=Nat.pow_lt_pow_right (n:=64) (by decide) hr64
 have hb:∀ j,(minusN s (2 ^ r)).testBit j=(s.testBit j && !decide (r=j)):=fun j=>by rw [ZV hs64 hp,Nat.testBit_two_pow]
 have ho:minusN s (2 ^ r) ||| 2 ^ r=s:=Nat.eq_of_testBit_eq fun j=>by
  rw [Nat.testBit_or,hb,Nat.testBit_two_pow]
  by_cases hj:r=j
  · subst hj; rw [hr]; simp
  · rw [decide_eq_false hj]; simp
 have hc:=Z9S 64 (minusN s (2 ^ r)) r hr64
 rw [ho,hb r,decide_eq_true rfl,Bool.not_true,Bool.and_false,if_neg (by decide)] at hc
 refine Bool.eq_false_iff.2 fun hg=>?_
 obtain⟨a1,a2,a3⟩:=(h.iff s).1 hs
 have:=a3 (minusN s (2 ^ r)) (orSub.2 fun i hi=>by
  rw [hb,Bool.and_eq_true] at hi
  exact orSub.1 a1 i hi.1) hg
 omega
omit hE in
theorem Mins.none (hn:out = []) {s:Nat} (hs:s ||| E=E):good s=false:=h.nil_iff.1 hn s hs
end
def smAll (l:List Nat) (good:Nat→Bool):Nat→List Nat
 | 0 => []
 | m+1=>smStep good (smAll l good m) (subM l m)
theorem Z7v {l:List Nat} (hl:l.Nodup) (good:Nat→Bool):∀ m,m≤2 ^ l.length→Mins (tried l m) good (smAll l good m)
 | 0,_=>(Mins.begin good).congr fun s=>⟨False.elim,fun ⟨j,h,_⟩=>absurd h (Nat.not_lt_zero j)⟩
 | m+1,h=>((Z7v hl good m (by omega)).step (Zey hl (by omega))).congr fun s=>(ZcR l m s).symm
theorem ZeF {E:Nat} (hE:E<18446744073709551616) (good:Nat→Bool):Mins (fun s=>s ||| E=E) good (smAll (mem E) good (2 ^ (mem E).length)) :=
 (Z7v (Ze0 E) good _ (Nat.le_refl _)).congr fun s=>Zez hE s
theorem ZcS (good:Nat→Bool) (out:List Nat) (s:Nat):(smStep good out s).length≤out.length+1:=by
 unfold smStep
 split
 · split<;>simp
 · split
   · simp
   · split
     · split<;>simp
     · simp
theorem Z9h (l:List Nat) (good:Nat→Bool):∀ m,(smAll l good m).length≤m
 | 0=>Nat.le_refl _
 | m+1=>Nat.le_trans (ZcS good _ _) (Nat.succ_le_succ (Z9h l good m))
theorem ZeG {E m:Nat} (hE:E<18446744073709551616):subM (mem E) m<18446744073709551616:=Z7t (n:=18446744073709551616) (fr:=E) (orSub.2 fun i hi=>by
 obtain⟨k,hk,h1,_⟩:=(Z4P _ _ _).1 hi
 exact (Z1P hE).1 (h1▸List.getElem_mem hk)) hE
theorem Z8r {E:Nat} (hE:E<18446744073709551616) (good:Nat→Bool):∀ m,∀ s∈smAll (mem E) good m,s<18446744073709551616
 | 0,s,h=>by cases h
 | m + 1, s, h => by
   have ih:=Z8r hE good m
   have hx:∀ x∈smStep good (smAll (mem E) good m) (subM (mem E) m),x∈smAll (mem E) good m ∨ x=subM (mem E) m:=fun x hx=>by
    unfold smStep at hx
    split at hx
    · split at hx
      · exact .inr (List.mem_singleton.1 hx)
      · cases hx
    · rename_i a r heq
      rw [heq]
      split at hx
      · exact .inl hx
      · split at hx
        · split at hx
          · exact .inr (List.mem_singleton.1 hx)
          · rcases List.mem_append.1 hx with hx | hx
            · exact .inl hx
            · exact .inr (List.mem_singleton.1 hx)
        · exact .inl hx
   rcases hx s h with h1|rfl
   · exact ih s h1
   · exact ZeG hE
structure NoneBelow (good:Nat→Bool) (fr k:Nat):Prop where
 no:∀ x,x ||| fr=fr→popK 64 x<k→good x=false
theorem NoneBelow.begin (good:Nat→Bool) (fr:Nat):NoneBelow good fr 0:=⟨fun x _ h=>absurd h (Nat.not_lt_zero _)⟩
theorem NoneBelow.step {good:Nat→Bool} {fr k:Nat} (hf:fr<256) (h:NoneBelow good fr k) (ha:AtSize good fr k 256 []):NoneBelow good fr (k+1):=⟨fun x hx hp=>by
 by_cases he:popK 64 x=k
 · exact ha.nil_iff.1 rfl x (Z7t hx hf) hx he
 · exact h.no x hx (by omega)⟩
structure RefSm (good:Nat→Bool) (fr:Nat) (out:List Nat):Prop where
 mins:Mins (fun s=>s ||| fr=fr) good out
 so:SortedK out
theorem ZcT {good:Nat→Bool} {fr k:Nat} {out:List Nat} (hf:fr<256) (h:NoneBelow good fr k) (ha:AtSize good fr k 256 out) (hne:out≠[]):RefSm good fr out:=⟨ha.mins hf hne h.no,ha.so⟩
theorem ZcU {good:Nat→Bool} {fr:Nat} (hf:fr<256) (h:NoneBelow good fr 9):RefSm good fr [] :=
 ⟨⟨List.nodup_nil, fun s => ⟨fun h => (by cases h), fun ⟨h1, h2, _⟩ => by
   have h3:=ZfY (Z7t h1 hf)
   rw [h.no s h1 (by omega)] at h2; cases h2⟩⟩,List.Pairwise.nil⟩
noncomputable def gdR (f:Fm) (l:List Pr) (E s:Nat):Bool:=holdB f (clo l (minusN E s))
noncomputable def gdA (f:Fm) (l:List Pr) (E s:Nat):Bool:=holdB f (clo l (E ||| s))
theorem Z1v {a:Nat} (b:Nat) (ha:a<18446744073709551616):minusN a b<18446744073709551616:=Nat.lt_of_le_of_lt Nat.and_le_left ha
theorem ZaA {a:Nat} (ha:a<18446744073709551616):minusN a a=0:=Nat.eq_of_testBit_eq fun i=>by rw [ZV ha ha,Nat.zero_testBit]; cases a.testBit i<;>rfl
theorem Z9i {a:Nat} (ha:a<18446744073709551616):minusN a 0=a:=Nat.eq_of_testBit_eq fun i=>by rw [ZV ha (by decide),Nat.zero_testBit]; simp
section
variable {f:Fm} (m:Made6 f) {l:List Pr} {E:Nat} (hE:E<18446744073709551616) (hmo:monoB (vioL f)=true) (h0:(0,0) ∉ vioL f)
include m hmo
end
end Go.Proofs.YtjpkfigmmmngnaaGreatDoor
namespace Go.Proofs.YtjpkfigmmmngnaaGreatDoor
open Go.RowKit
attribute [local irreducible] aw opsK dK
noncomputable def hierP (l:List Pr) (S:List Nat):PV:=.cp [.cp (ordC l S)]
theorem Zv (l:List Pr) (S:List Nat):(hierP l S).pure:=⟨Z1k l S,trivial⟩
theorem Z3r:Spec Tryz.prog 47 [] fun r=>∃ S,r=hierP [] S:=by
 refine Z3 ok47 (Nat.le_of_ble_eq_true rfl) fun C hC=>?_
 (refine go ?_;repeat' (apply B<;>intro hb<;>try cases hb))
 refine Zo rfl rfl (Z9c [] true (fun p hp=>by cases hp) List.nodup_nil ⟨fun _=>0,fun p hp=>by cases hp⟩ (by decide)) ⟨trivial,trivial,trivial⟩ rfl ?_
 rintro r ⟨l',o,h1,h2,⟨S',rfl⟩,rfl⟩
 obtain rfl:=List.Perm.eq_nil h1
 (repeat'(first|refine Z2 9 ?_|refine Z1 9 ?_|refine st ?_|(apply B<;>intro hb<;>try cases hb)))<;>try refine At.mk ?_
 refine Z6 rfl rfl rfl ?_
 (refine go ?_;repeat' (apply B<;>intro hb<;>try cases hb))
 exact Z5 rfl (Zv [] S') ⟨S',rfl⟩
theorem Z7w (a:Int):Spec Tryz.prog 102 [.val (.int .i64 a)] (· = .val (.bool (decide (1≤a)&&decide (a≤63)))):=by
 refine Z3 ok102 (Nat.le_of_ble_eq_true rfl) fun C hC=>?_
 (refine go ?_;repeat' (apply B<;>intro hb<;>try cases hb))
 all_goals exact Z5 rfl trivial (by simp_all<;>omega)
theorem Z9j (a:Nat) (h1:1≤a) (h2:a<64):Spec Tryz.prog 102 [.val (.int .i64 (a:Int))] (· = .val (.bool true)):=by
 have:=Z7w (a:Int)
 rwa [decide_eq_true (show (1:Int)≤a by omega),decide_eq_true (show (a:Int)≤63 by omega)] at this
set_option maxHeartbeats 1000000 in
theorem Z6D (l:List Pr) (S:List Nat) (a b:Nat) (ha:1≤a∧a<64) (hb:1≤b∧b<64) (hab:a≠b) (hl:Small l) (hn:l.Nodup) (hno:(a,b) ∉ l) (hacy:Acy (l ++ [(a,b)])) (hlen:l.length≤100000):Spec Tryz.prog 53 [hierP l S,.val (.int .i64 (a:Int)),.val (.int .i64 (b:Int))] fun r=>∃ l' S',l'.Perm (l ++ [(a,b)])∧SortedP l'∧r=.tup [hierP l' S',.val (.int .i64 0)]:=by
 have hne:((a:Int) == (b:Int))=false:=by rw [beq_eq_false_iff_ne]; omega
 refine Z3 ok53 (Nat.le_of_ble_eq_true rfl) fun C hC=>?_
 (refine go ?_;repeat' (apply B<;>intro hb<;>try cases hb))
 refine Z4 (Z9j a ha.1 ha.2) rfl rfl rfl ⟨trivial,trivial⟩ rfl ?_
 (refine go ?_;repeat' (apply B<;>intro hb<;>try cases hb))
 refine Z4 (Z9j b hb.1 hb.2) rfl rfl rfl ⟨trivial,trivial⟩ rfl ?_
 (repeat'(first|refine Z2 25 ?_|refine Z1 25 ?_|refine st ?_|(apply B<;>intro hb<;>try cases hb)))<;>try refine At.mk ?_
 refine Zh rfl ?_
 refine Z7 (Zw rfl hne) rfl rfl ?_
 (refine go ?_;repeat' (apply B<;>intro hb<;>try cases hb))
 refine Zo rfl rfl (ZcO l S a b ha.2 hb.2 hl hn hno hacy hlen) ⟨Z1k l S,trivial,trivial,trivial⟩ rfl ?_
 rintro r ⟨l',o,h1,h2,⟨S',rfl⟩,rfl⟩
 (repeat'(first|refine Z2 42 ?_|refine Z1 42 ?_|refine st ?_|(apply B<;>intro hb<;>try cases hb)))<;>try refine At.mk ?_
 refine Z6 rfl rfl rfl ?_
 (refine go ?_;repeat' (apply B<;>intro hb<;>try cases hb))
 exact Z5 rfl ⟨Zv l' S',trivial,trivial⟩ ⟨l',S',h1,h2,rfl⟩
theorem Z9k (l:List Pr) (S:List Nat) (r:Int):Spec Tryz.prog 61 [hierP l S,.val (.int .i64 r)] (· = setN (if 1≤r∧r≤63 then jun l r.toNat else 0)):=by
 refine Z3 ok61 (Nat.le_of_ble_eq_true rfl) fun C hC=>?_
 (refine go ?_;repeat' (apply B<;>intro hb<;>try cases hb))
 refine Z4 (Z7w r) rfl rfl rfl ⟨trivial,trivial⟩ rfl ?_
 by_cases h:1≤r∧r≤63
 · rw [if_pos h, decide_eq_true h.1, decide_eq_true h.2]
   obtain⟨k,rfl⟩:∃ k:Nat,r=(k:Int):=⟨r.toNat,by omega⟩
   have hk:k<64:=by omega
   have h1:=Zaw l S (k:Int)
   rw [if_pos ⟨by omega,by omega⟩] at h1
   have h2:=Z3j (bel l k) (Nat.le_trans (Z2a (Zee l k)) (by decide)) (k:Int)
   rw [withN,if_pos ⟨by omega,by omega⟩] at h2
   (refine go ?_;repeat' (apply B<;>intro hb<;>try cases hb))
   refine Z4 h1 rfl rfl rfl ⟨Z1k l S,trivial,trivial⟩ rfl ?_
   (refine go ?_;repeat' (apply B<;>intro hb<;>try cases hb))
   refine Z4 h2 rfl rfl rfl ⟨Z0 _,trivial,trivial⟩ rfl ?_
   (refine go ?_;repeat' (apply B<;>intro hb<;>try cases hb))
   exact Z5 rfl (Z0 _) rfl
 · rw [if_neg h]
   have h2:(decide (1≤r)&&decide (r≤63))=false:=by
    rw [Bool.and_eq_false_iff]
    by_cases h1:1≤r
    · exact .inr (decide_eq_false fun h3=>h ⟨h1,h3⟩)
    · exact .inl (decide_eq_false h1)
   rw [h2]
   (refine go ?_;repeat' (apply B<;>intro hb<;>try cases hb))
   refine Z3X rfl (Z0 0 |> fun h=>by rw [Z2i] at h; exact h) ?_
   rw [Z2i]; rfl
noncomputable def cloL (l:List Pr) (rs:List Nat):Nat:=rs.foldl (fun o r=>if 1≤r then o ||| jun l r else o) 0
theorem ZeH (l:List Pr) (rs:List Nat) (r:Nat):cloL l (rs ++ [r])=if 1≤r then cloL l rs ||| jun l r else cloL l rs:=by simp [cloL,List.foldl_append]
set_option maxHeartbeats 2000000 in
theorem Z3s (l:List Pr) (S:List Nat) (s:Nat) (hs:s<18446744073709551616):Spec Tryz.prog 19 [hierP l S,setN s] (· = setN (clo l s)):=by
 refine Z3 ok19 (Nat.le_of_ble_eq_true rfl) fun C hC=>?_
 refine Zm ?_
 refine Za ?_
 refine Z6 rfl rfl rfl ?_
 refine Z6 rfl rfl rfl ?_
 (refine go ?_;repeat' (apply B<;>intro hb<;>try cases hb))
 refine Z4 (Z1u s) rfl rfl rfl ⟨Z0 _,trivial⟩ rfl ?_
 (refine go ?_;repeat' (apply B<;>intro hb<;>try cases hb))
 have hhp:=Zv l S
 refine Z2q (X:=List Nat) hC (caps := [.cp [.vec (words (digs s)) false]]) [(2,.cp [hierP l S]),(4,.ptr 0 0 0),(5,.ptr 1 0 0),(8,.fn 70 [.cp [.vec (words (digs s)) false]])]
  (fun z => [(0,⟨1,[[.vec [] true]]⟩),(1,⟨1,[[.vec (words (digs (cloL l z))) false]]⟩)]) rfl ⟨⟨Zb _,trivial⟩,trivial⟩ (Z25 s hs) (fun _=>rfl)
  (fun ex pre z=>ex=.normal∧z=pre.map (·.val)) 2 (by decide) [] ⟨rfl,rfl⟩
  (Z4l (EnvQ.mem (ρ := fun i => i) (m := 2) (L := [(2, .cp [hierP l S]), (4, .ptr 0 0 0), (5, .ptr 1 0 0), (8, .fn 70 [.cp [.vec (words (digs s)) false]])]) ⟨⟨_, rfl, .pure _ ⟨hhp, trivial⟩⟩, ⟨_, rfl, .ptr (ρ := fun i => i) 0 0 0 (by decide)⟩, ⟨_, rfl, .ptr (ρ := fun i => i) 1 0 0 (by decide)⟩, ⟨_, rfl, .pure _ ⟨⟨Zb _, trivial⟩, trivial⟩⟩, trivial⟩)
    (HeapQ.mem (ρ:=fun i=>i) (m:=2) (L := [(0,⟨1,[[.vec [] true]]⟩),(1,⟨1,[[.vec (words (digs (cloL l []))) false]]⟩)]) ⟨⟨by decide,_,rfl,.same _ ⟨⟨trivial,trivial⟩,trivial⟩⟩,⟨by decide,⟨1,[[.vec [] true]]⟩,rfl,by rw [show cloL l []=0 from rfl,Zx]; exact RenB.single (ρ:=fun i=>i) (l0 := [.vec [] true]) (l := [.vec [] false]) (show RenLs _ _ [_] [_] from ⟨.low (.vec [] true) trivial,trivial⟩) rfl⟩,trivial⟩) hC (by decide))
  (fun z q hq=>by simp at hq; rcases hq with rfl|rfl<;>exact Nat.zero_lt_succ _) _ (fun x=>rfl) ?_ ?_ ?_
 · rintro C2 hC2 pre x z ⟨-, rfl⟩ hlen
   have hx64:=Z1t x.2
   have hj:=Z9k l S (x.val:Int)
   have hcz:cloL l (pre.map (·.val))<18446744073709551616:=by
    unfold cloL
    exact Zav l _ 0 (fun r hr=>by obtain⟨y,_,rfl⟩:=List.mem_map.1 hr; exact Z1t y.2) (by decide)
   have hstep:=ZeH l (pre.map (·.val)) x.val
   have hnew:cloL l (pre.map (·.val)) ||| (if 1≤(x.val:Int)∧(x.val:Int)≤63 then jun l (x.val:Int).toNat else 0)=cloL l (pre.map (·.val) ++ [x.val]):=by
    rw [hstep]
    by_cases h1:1≤x.val
    · rw [if_pos h1,if_pos ⟨by omega,by omega⟩]; rfl
    · rw [if_neg h1,if_neg (by omega),Nat.or_zero]
   have hj64:(if 1≤(x.val:Int)∧(x.val:Int)≤63 then jun l (x.val:Int).toNat else 0)<18446744073709551616:=by
    split
    · exact Zbx l hx64
    · decide
   (refine go ?_;repeat' (apply B<;>intro hb<;>try cases hb))
   refine Zt hj rfl rfl rfl ⟨hhp,trivial,trivial⟩ ?_
   refine Zt (Z2r _ _ hcz hj64) rfl rfl rfl ⟨Z0 _,Z0 _,trivial⟩ ?_
   rw [hnew]
   (refine go ?_;repeat' (apply B<;>intro hb<;>try cases hb))
   exact⟨.inl rfl,pre.map (·.val) ++ [x.val],fun i=>i,⟨rfl,by rw [List.map_append]; rfl⟩,fun i hi=>rfl,ZL,
    ⟨⟨_,rfl,.pure _ ⟨hhp,trivial⟩⟩,⟨_,rfl,.ptr (ρ:=fun i=>i) 0 0 0 (by decide)⟩,⟨_,rfl,.ptr (ρ:=fun i=>i) 1 0 0 (by decide)⟩,⟨_,rfl,.pure _ ⟨⟨Zb _,trivial⟩,trivial⟩⟩,trivial⟩,
    ⟨⟨by decide,_,rfl,.same _ ⟨⟨trivial,trivial⟩,trivial⟩⟩,⟨by decide,_,rfl,.same _ ⟨⟨Zb _,trivial⟩,trivial⟩⟩,trivial⟩⟩
 · rintro xs z hxs ⟨-, rfl⟩
   rw [hxs]
   (refine go ?_;repeat' (apply B<;>intro hb<;>try cases hb))
   exact Z5 rfl (Z0 _) (by rw [Zep]; rfl)
 · rintro ex pre z - ⟨rfl,_⟩ (h|⟨id,h⟩)<;>cases h
theorem Z6E (N:Nat) (hN:N<18446744073709551616) (i:Nat):Spec Tryz.prog 72 [setN N,.val (.int .i64 (i:Int))] (· = .val (.bool (N.testBit i))):=by
 have:=Z1A N hN (i:Int)
 rwa [decide_eq_true (show (0:Int)≤(i:Int) by omega),Bool.true_and,Int.toNat_natCast] at this
set_option maxHeartbeats 2000000 in
theorem ZcV (k:Nat) (h1:1≤k) (h2:k≤64):Spec Tryz.prog 46 [.val (.int .i64 (k:Int))] (· = setN (2 ^ k-1)):=by
 refine Z3 ok46 (Nat.le_of_ble_eq_true rfl) fun C hC=>?_
 have hq:IntKind.i64.wrap (((k+63:Nat):Int).tdiv 64)=((1:Nat):Int):=by
  rw [IntWalk.i64_quo _ _ ⟨by omega,by omega,by omega⟩]; omega
 (repeat'(first|refine Z2 6 ?_|refine Z1 6 ?_|refine st ?_|(apply B<;>intro hb<;>try cases hb)))<;>try refine At.mk ?_
 refine Zn rfl rfl rfl (v:=(k:Int)) (by split<;>omega) ?_
 refine Zn rfl rfl rfl (v:=(k:Int)) (by split<;>omega) ?_
 (repeat'(first|refine Z2 9 ?_|refine Z1 9 ?_|refine st ?_|(apply B<;>intro hb<;>try cases hb)))<;>try refine At.mk ?_
 refine Zn rfl rfl rfl (show IntKind.i64.wrap ((k:Int)+63)=((k+63:Nat):Int) from IntWalk.i64_in _ ⟨by omega,by omega⟩) ?_
 (repeat'(first|refine Z2 10 ?_|refine Z1 10 ?_|refine st ?_|(apply B<;>intro hb<;>try cases hb)))<;>try refine At.mk ?_
 refine Zn rfl rfl rfl hq ?_
 (refine go ?_;repeat' (apply B<;>intro hb<;>try cases hb))
 refine ZY 1 ?_
 (repeat'(first|refine Z2 22 ?_|refine Z1 22 ?_|refine st ?_|(apply B<;>intro hb<;>try cases hb)))<;>try refine At.mk ?_
 by_cases hk:k=64
 · subst hk
   repeat' (first|refine Ze (Zp (k:=33) rfl rfl (ZM rfl)) ?_|(first|refine st ?_|(apply B<;>intro hb<;>try cases hb)))
   exact Z5 rfl (Z2z rfl) (by rw [Z2X (by decide) (by decide)]; rfl)
 · have hr : (k : Int).tmod 64 = ((k : Nat) : Int) := by rw [Int.tmod_eq_emod_of_nonneg (by omega)]; omega
   refine Zn rfl rfl rfl hr ?_
   refine Z7 (Zw (v:=true) rfl (by simp;omega)) rfl rfl ?_
   (repeat'(first|refine Z2 29 ?_|refine Z1 29 ?_|refine st ?_|(apply B<;>intro hb<;>try cases hb)))<;>try refine At.mk ?_
   refine Zn rfl rfl rfl hr ?_
   refine Z7 (Zc9 rfl rfl (by omega) (v:=((2 ^ k:Nat):Int)) (by
    rw [show min ((k:Int)).toNat IntKind.u64.bits=k by simp [IntKind.bits]; omega]
    have hp:=Z16 (show k<64 by omega)
    rw [Int.one_mul,show (2:Int) ^ k=((2 ^ k:Nat):Int) by simp]
    exact IntWalk.u64_in _ ⟨Int.natCast_nonneg _,Int.ofNat_le.2 (show _≤18446744073709551615 by omega)⟩)) rfl rfl ?_
   refine Zn rfl rfl rfl (v:=((2 ^ k-1:Nat):Int)) (by
    have hp:=Z16 (show k<64 by omega)
    have:=Nat.two_pow_pos k
    rw [show ((2 ^ k:Nat):Int)-1=((2 ^ k-1:Nat):Int) by omega]
    exact IntWalk.u64_in _ ⟨Int.natCast_nonneg _,Int.ofNat_le.2 (show _≤18446744073709551615 by omega)⟩) ?_
   have hp:=Z16 (show k<64 by omega)
   have hp2:2≤2 ^ k:=Nat.pow_le_pow_right (n:=2) (by decide) h1
   repeat' (first|refine Ze (Zp (k:=33) rfl rfl (ZM rfl)) ?_|(first|refine st ?_|(apply B<;>intro hb<;>try cases hb)))
   exact Z5 rfl (Z2z rfl) (by rw [Z2X (by omega) (by omega)]; rfl)
theorem Zg0 (a b:Nat) (ha:a<18446744073709551616) (hb:b<18446744073709551616):bits .and .u64 (a:Int) (b:Int)=((a &&& b:Nat):Int):=by
 have h1:(BitVec.ofInt 64 (a:Int)).toNat=a:=by rw [BitVec.ofInt_natCast,BitVec.toNat_ofNat]; exact Nat.mod_eq_of_lt (by omega)
 have h2:(BitVec.ofInt 64 (b:Int)).toNat=b:=by rw [BitVec.ofInt_natCast,BitVec.toNat_ofNat]; exact Nat.mod_eq_of_lt (by omega)
 show IntKind.u64.wrap ((BitVec.ofInt 64 (a:Int) &&& BitVec.ofInt 64 (b:Int)).toNat:Int)=_
 rw [BitVec.toNat_and,h1,h2]
 have:a &&& b≤a:=Nat.and_le_left
 exact IntWalk.u64_in _ ⟨by omega,by omega⟩
set_option maxHeartbeats 2000000 in
theorem Z31 (N M:Nat) (hN:N<18446744073709551616) (hM:M<18446744073709551616):Spec Tryz.prog 25 [setN N,setN M] (· = setN (minusN N M)):=by
 have hlt:=Z1v M hN
 have hz:∀ M,minusN 0 M=0:=fun M=>Nat.le_zero.1 Nat.and_le_left
 have fin:∀ {r:PV} {x:Nat},x<18446744073709551616→IsTrim [x] r→r=setN x:=fun {r x} hx hr=>by
  have e1:=hr.set (fun y hy=>by rw [List.mem_singleton.1 hy]; exact hx)
  have e2:ofW [x]=x:=by simp [ofW]
  rw [e2] at e1
  exact e1
 rcases Z17 hN with⟨rfl,e1⟩|⟨h1,e1⟩<;>rcases Z17 hM with⟨rfl,e2⟩|⟨h2,e2⟩<;>rw [e1]<;>(try rw [e2])<;>clear e1 e2
 all_goals
  refine Z3 ok25 (Nat.le_of_ble_eq_true rfl) fun C hC=>?_
  refine Zm ?_
  refine Za ?_
  refine Z6 rfl rfl rfl ?_
  refine Z6 rfl rfl rfl ?_
  (refine go ?_;repeat' (apply B<;>intro hb<;>try cases hb))
  refine ZY 1 ?_
 · repeat' (first | refine Ze (Zp (k := 29) rfl rfl (ZM rfl)) ?_ | (first|refine st ?_|(apply B<;>intro hb<;>try cases hb)))
   refine Zo rfl rfl (Z2I []) (ZT rfl) rfl fun r hr=>?_
   have e1:=hr.set (fun x hx=>by cases hx)
   subst e1
   (refine go ?_;repeat' (apply B<;>intro hb<;>try cases hb))
   exact Z5 rfl (Z0 _) (show setN (ofW [])=_ by rw [hz]; simp [ofW])
 · repeat' (first | refine Ze (Zp (k := 29) rfl rfl (ZM rfl)) ?_ | (first|refine st ?_|(apply B<;>intro hb<;>try cases hb)))
   refine Zo rfl rfl (Z2I []) (ZT rfl) rfl fun r hr=>?_
   have e1:=hr.set (fun x hx=>by cases hx)
   subst e1
   (refine go ?_;repeat' (apply B<;>intro hb<;>try cases hb))
   exact Z5 rfl (Z0 _) (show setN (ofW [])=_ by rw [hz]; simp [ofW])
 · (repeat'(first|refine Z2 25 ?_|refine Z1 25 ?_|refine st ?_|(apply B<;>intro hb<;>try cases hb)))<;>try refine At.mk ?_
   refine Zt (Z13 [] 0) rfl rfl rfl (ZT rfl) ?_
   refine Zq (Z3M rfl (ZJ N 0 hN hM)) rfl rfl ?_
   repeat' (first|refine Ze (Zp (k:=29) rfl rfl (ZM rfl)) ?_|(first|refine st ?_|(apply B<;>intro hb<;>try cases hb)))
   refine Zo rfl rfl (Z2I [minusN N 0]) (ZT rfl) rfl fun r hr=>?_
   obtain rfl:=fin hlt hr
   (refine go ?_;repeat' (apply B<;>intro hb<;>try cases hb))
   exact Z5 rfl (Z0 _) rfl
 · (repeat'(first|refine Z2 25 ?_|refine Z1 25 ?_|refine st ?_|(apply B<;>intro hb<;>try cases hb)))<;>try refine At.mk ?_
   refine Zt (Z13 [M] 0) rfl rfl rfl (ZT rfl) ?_
   refine Zq (Z3M rfl (ZJ N M hN hM)) rfl rfl ?_
   repeat' (first|refine Ze (Zp (k:=29) rfl rfl (ZM rfl)) ?_|(first|refine st ?_|(apply B<;>intro hb<;>try cases hb)))
   refine Zo rfl rfl (Z2I [minusN N M]) (ZT rfl) rfl fun r hr=>?_
   obtain rfl:=fin hlt hr
   (refine go ?_;repeat' (apply B<;>intro hb<;>try cases hb))
   exact Z5 rfl (Z0 _) rfl
theorem Z6F (N:Nat) (f:Fm) (m:Made6 f):Spec Tryz.prog 18 [.agg (fC .u8 f),setN N,.vec [] true] (· = .val (.bool (holdB f N))):=by
 have hd:=m.depth
 have hs:=m.size
 have:=Zch N [] true f (by omega) (by omega)
 have e:typeOfE f=0∧typeOfT f=1:=by
  unfold typeOfE typeOfT
  rw [if_neg (by omega),if_pos m.wf.1,if_pos m.wf.2,if_neg (by omega),if_pos m.wf.1,if_pos m.wf.2]
  exact⟨rfl,m.ty⟩
 rw [e.1,e.2] at this
 exact this
def HoldsW (f:Fm):Prop:=∀ N,Spec Tryz.prog 18 [.agg (fC .u8 f),setN N,.vec [] true] (· = .val (.bool (holdB f N)))
theorem Made6.holdsW {f:Fm} (m:Made6 f):HoldsW f:=fun N=>Z6F N f m
theorem Z7x (f:Fm) (hd:f.depth≤1000) (hsz:f.size≤1099511627776) (l:List Pr) (S:List Nat) (s:Nat) (hs:s<18446744073709551616) (h0:s.testBit 0=false):Spec Tryz.prog 62 [.agg (fC .u8 f),hierP l S,setN s] (· = .val (.int .i64 (checkM f))):=by
 have hw:decide (s ||| (2 ^ 64-1)=2 ^ 64-1)=true:=decide_eq_true (orSub.2 fun i hi=>by
  have:i<64:=Nat.lt_of_not_le fun h8=>by
   rw [Nat.testBit_lt_two_pow (Nat.lt_of_lt_of_le hs (Nat.pow_le_pow_right (n:=2) (by decide) h8))] at hi; cases hi
  rw [Nat.testBit_two_pow_sub_one,decide_eq_true this])
 have hh:=Z65 s 0 (by decide) (by decide)
 rw [show (0:Int).toNat=0 from rfl,h0] at hh
 have hh0:=Z41 s (2 ^ 64-1) hs (by decide)
 rw [hw] at hh0
 refine Z3 ok62 (Nat.le_of_ble_eq_true rfl) fun C hC=>?_
 refine Zm ?_
 refine Za ?_
 refine Z6 rfl rfl rfl ?_
 refine Z6 rfl rfl rfl ?_
 (refine go ?_;repeat' (apply B<;>intro hb<;>try cases hb))
 refine Zt hh rfl rfl rfl ⟨Z0 s,trivial,trivial⟩ ?_
 (refine go ?_;repeat' (apply B<;>intro hb<;>try cases hb))
 refine Zt (ZcV 64 (by decide) (by decide)) rfl rfl rfl ⟨trivial,trivial⟩ ?_
 (refine go ?_;repeat' (apply B<;>intro hb<;>try cases hb))
 refine Zt hh0 rfl rfl rfl ⟨Z0 s,Z0 _,trivial⟩ ?_
 (refine go ?_;repeat' (apply B<;>intro hb<;>try cases hb))
 refine Z4 (Z5a f hd hsz) rfl rfl rfl ⟨Zk _ _,trivial,trivial⟩ rfl ?_
 (refine go ?_;repeat' (apply B<;>intro hb<;>try cases hb))
 exact Z5 rfl trivial rfl
theorem Z8s {f:Fm} (m:HoldsW f) (l:List Pr) (S:List Nat) (E s:Nat) (hE:E<18446744073709551616) (hs:s<18446744073709551616):Spec Tryz.prog 65 [setN s,.cp (fC .u8 f),.cp [hierP l S],.cp [.vec (words (digs E)) false]] (· = .val (.bool (gdR f l E s))):=by
 have hp:pureL [PV.vec (words (digs E)) false]:=⟨Zb _,trivial⟩
 refine Z3 ok65 (Nat.le_of_ble_eq_true rfl) fun C hC=>?_
 refine Zm ?_
 refine Za ?_
 refine Z6 rfl rfl rfl ?_
 (refine go ?_;repeat' (apply B<;>intro hb<;>try cases hb))
 refine Zt (Z31 E s hE hs) rfl rfl rfl ⟨Z0 _,Z0 _,trivial⟩ ?_
 refine Zt (Z3s l S _ (Z1v s hE)) rfl rfl rfl ⟨Zv l S,Z0 _,trivial⟩ ?_
 refine Zt (m (clo l (minusN E s))) rfl rfl rfl ⟨Zk _ _,Z0 _,trivial,trivial⟩ ?_
 rw [show holdB f (clo l (minusN E s))=gdR f l E s from rfl]
 generalize gdR f l E s=v
 cases v
 all_goals
  (refine go ?_;repeat' (apply B<;>intro hb<;>try cases hb))
  exact Z5 rfl trivial rfl
theorem Z6G {f:Fm} (m:HoldsW f) (l:List Pr) (S:List Nat) (E s:Nat) (hE:E<18446744073709551616) (hs:s<18446744073709551616):Spec Tryz.prog 66 [setN s,.cp (fC .u8 f),.cp [hierP l S],.cp [.vec (words (digs E)) false]] (· = .val (.bool (gdA f l E s))):=by
 refine Z3 ok66 (Nat.le_of_ble_eq_true rfl) fun C hC=>?_
 refine Zm ?_
 refine Za ?_
 refine Z6 rfl rfl rfl ?_
 (refine go ?_;repeat' (apply B<;>intro hb<;>try cases hb))
 refine Zt (Z2r E s hE hs) rfl rfl rfl ⟨Z0 _,Z0 _,trivial⟩ ?_
 refine Zt (Z3s l S _ (Z38 hE hs)) rfl rfl rfl ⟨Zv l S,Z0 _,trivial⟩ ?_
 refine Zt (m (clo l (E ||| s))) rfl rfl rfl ⟨Zk _ _,Z0 _,trivial,trivial⟩ ?_
 rw [show holdB f (clo l (E ||| s))=gdA f l E s from rfl]
 generalize gdA f l E s=v
 cases v
 all_goals
  (refine go ?_;repeat' (apply B<;>intro hb<;>try cases hb))
  exact Z5 rfl trivial rfl
end Go.Proofs.YtjpkfigmmmngnaaGreatDoor
namespace Go.Proofs.YtjpkfigmmmngnaaGreatDoor
open Go.Shelf
def Z32:Go.Shelf.Ren:=⟨fun|6=>115|15=>153|14=>152|28=>181|29=>182|20=>173|21=>174|22=>175|23=>176|24=>177|25=>178|26=>179|27=>180|46=>211|47=>212|48=>213|49=>214|50=>215|57=>227|n=>n,fun|22=>47|24=>42|25=>174|3=>3|39=>168|0=>0|53=>238|55=>23|4=>4|46=>231|45=>230|50=>235|5=>5|9=>9|66=>262|70=>266|76=>275|77=>192|n=>n,fun|n=>n⟩
theorem sortSet:Go.Proofs.SlLaysF0.n6 Tryz.prog Z32:={
 mixed:=by kernel_rfl
 f6:=⟨Tryz.f115.name,by decide,Tryz.func115.trans (congrArg some (by kernel_rfl))⟩
 f14:=⟨Tryz.f152.name,by decide,Tryz.func152.trans (congrArg some (by kernel_rfl))⟩
 f15:=Tryz.func153.trans (congrArg some (by kernel_rfl))
 f20:=⟨Tryz.f173.name,by decide,Tryz.func173.trans (congrArg some (by kernel_rfl))⟩
 f21:=⟨Tryz.f174.name,by decide,Tryz.func174.trans (congrArg some (by kernel_rfl))⟩
 f22:=⟨Tryz.f175.name,by decide,Tryz.func175.trans (congrArg some (by kernel_rfl))⟩
 f23:=⟨Tryz.f176.name,by decide,Tryz.func176.trans (congrArg some (by kernel_rfl))⟩
 f24:=⟨Tryz.f177.name,by decide,Tryz.func177.trans (congrArg some (by kernel_rfl))⟩
 f25:=⟨Tryz.f178.name,by decide,Tryz.func178.trans (congrArg some (by kernel_rfl))⟩
 f26:=⟨Tryz.f179.name,by decide,Tryz.func179.trans (congrArg some (by kernel_rfl))⟩
 f27:=⟨Tryz.f180.name,by decide,Tryz.func180.trans (congrArg some (by kernel_rfl))⟩
 f28:=Tryz.func181.trans (congrArg some (by kernel_rfl))
 f29:=Tryz.func182.trans (congrArg some (by kernel_rfl))
 f46:=⟨Tryz.f211.name,by decide,Tryz.func211.trans (congrArg some (by kernel_rfl))⟩
 f47:=Tryz.func212.trans (congrArg some (by kernel_rfl))
 f48:=Tryz.func213.trans (congrArg some (by kernel_rfl))
 f49:=⟨Tryz.f214.name,by decide,Tryz.func214.trans (congrArg some (by kernel_rfl))⟩
 f50:=⟨Tryz.f215.name,by decide,Tryz.func215.trans (congrArg some (by kernel_rfl))⟩
 f57:=⟨Tryz.f227.name,by decide,Tryz.func227.trans (congrArg some (by kernel_rfl))⟩
 t0:=Tryz.underlying0
 a0:=Tryz.isAgg0
 z0:=Tryz.sizeOf0
 v0:=Tryz.zeroValue0
 t3:=Tryz.underlying3
 a3:=Tryz.isAgg3
 z3:=Tryz.sizeOf3
 v3:=Tryz.zeroValue3
 t4:=Tryz.underlying4
 a4:=Tryz.isAgg4
 z4:=Tryz.sizeOf4
 v4:=Tryz.zeroValue4
 t5:=Tryz.underlying5
 a5:=Tryz.isAgg5
 z5:=Tryz.sizeOf5
 v5:=Tryz.zeroValue5
 t9:=Tryz.underlying9
 a9:=Tryz.isAgg9
 z9:=Tryz.sizeOf9
 v9:=Tryz.zeroValue9
 t22:=Tryz.underlying47
 a22:=Tryz.isAgg47
 z22:=Tryz.sizeOf47
 v22:=Tryz.zeroValue47
 t25:=Tryz.underlying174
 a25:=Tryz.isAgg174
 z25:=Tryz.sizeOf174
 v25:=Tryz.zeroValue174
 t39:=Tryz.underlying168
 a39:=Tryz.isAgg168
 z39:=Tryz.sizeOf168
 v39:=Tryz.zeroValue168
 t45:=Tryz.underlying230
 a45:=Tryz.isAgg230
 z45:=Tryz.sizeOf230
 v45:=Tryz.zeroValue230
 t46:=Tryz.underlying231
 a46:=Tryz.isAgg231
 z46:=Tryz.sizeOf231
 v46:=Tryz.zeroValue231
 t50:=Tryz.underlying235
 a50:=Tryz.isAgg235
 z50:=Tryz.sizeOf235
 v50:=Tryz.zeroValue235
 t53:=Tryz.underlying238
 a53:=Tryz.isAgg238
 z53:=Tryz.sizeOf238
 v53:=Tryz.zeroValue238
 t55:=Tryz.underlying23
 a55:=Tryz.isAgg23
 z55:=Tryz.sizeOf23
 v55:=Tryz.zeroValue23
 t66:=Tryz.underlying262
 a66:=Tryz.isAgg262
 z66:=Tryz.sizeOf262
 v66:=Tryz.zeroValue262
 t70:=Tryz.underlying266
 a70:=Tryz.isAgg266
 z70:=Tryz.sizeOf266
 v70:=Tryz.zeroValue266
 t76:=Tryz.underlying275
 a76:=Tryz.isAgg275
 z76:=Tryz.sizeOf275
 v76:=Tryz.zeroValue275
 t77:=Tryz.underlying192
 a77:=Tryz.isAgg192
 z77:=Tryz.sizeOf192
 v77:=Tryz.zeroValue192 }
theorem ZaB:∀ w,(isAgg (Z32.t 24)).run Tryz.prog w=.ok true w:=Tryz.isAgg42
theorem Z9l:∀ w,(Go.sizeOf (Z32.t 24)).run Tryz.prog w=.ok 1 w:=Tryz.sizeOf42
end Go.Proofs.YtjpkfigmmmngnaaGreatDoor
namespace Go.Proofs.YtjpkfigmmmngnaaGreatDoor
open Go.RowKit
attribute [local irreducible] aw opsK dK
def stC (s:Nat):List PV := [.vec (words (digs s)) false]
theorem Z5N (s:Nat):pureL (stC s):=⟨Zb _,trivial⟩
def seL (l:List Nat):List (List PV):=l.map stC
theorem Z1j (l:List Nat):pureLL (seL l):=Z1Q (enc:=stC) Z5N l
theorem ZaC (l:List Nat):(seL l).length=l.length:=by simp [seL]
abbrev S64:={ s:Nat // s<18446744073709551616 }
theorem allS64 {xs:List Nat} (h:∀ c∈xs,c<18446744073709551616):∃ l:List S64,l.map (·.1)=xs:=by
 induction xs with
 | nil=>exact⟨[],rfl⟩
 | cons c xs ih =>
   obtain⟨l,hl⟩:=ih fun d hd=>h d (List.mem_cons_of_mem _ hd)
   exact⟨⟨c,h c (List.mem_cons_self ..)⟩ :: l,by rw [List.map_cons,hl]⟩
theorem ZaD {n ob:Nat} {h:Heap} (xs:List Nat) (hx:∀ c∈xs,c<18446744073709551616) (hh:h ob=some ⟨1,seL xs⟩) :
 ISpec Tryz.prog 115 n [.own ob,.fn 116 []] h fun n' r h'=>n'=n∧r=.tup []∧∃ ys:List Nat,ys.Perm xs∧SortedK ys∧h'=h.upd ob ⟨1,seL ys⟩:=by
 obtain⟨l,rfl⟩:=allS64 hx
 have e:∀ l:List S64,seL (l.map (·.1))=l.map fun c:S64=>stC c.1:=fun l=>by unfold seL; rw [List.map_map]; rfl
 rw [e] at hh
 have hs:=Z57 (P:=Tryz.prog) (ρ:=Z32) (n:=n) sortSet ⟨_,Tryz.func115,by kernel_rfl,by kernel_rfl⟩ 1 (by decide) ZaB Z9l (fun c:S64=>stC c.1) (fun c=>rfl) (fun c=>Z5N c.1) (fun c:S64=>key c.1) (fun a b:S64=>sgnI (key a.1) (key b.1)) (fun a b=>Z4z) 116 [] trivial (fun a b=>Z2Y a.1 b.1 a.2 b.2) l hh
 refine hs.mono ?_
 rintro n' r h' ⟨h1,h2,ys,h3,h4,h5⟩
 refine⟨h1,h2,ys.map (·.1),h3.map _,?_,by rw [e]; exact h5⟩
 exact List.pairwise_map.2 h4
theorem Z6H (l:List Nat):(intsN l).length=l.length:=by simp [intsN]
theorem ZaE (good:Nat→Bool) (a:Nat) (r:List Nat) (s:Nat):smStep good (a :: r) s=if popK 64 a<popK 64 s then a :: r else if good s then (if popK 64 s<popK 64 a then [s] else a :: r ++ [s]) else a :: r:=rfl
inductive SmR (E:Nat) (good:Nat→Bool):PV→Prop
 | many (h:12<popK 64 E):SmR E good (.tup [.vec [] true,.val (.int .i64 3)])
 | found (h:popK 64 E≤12) (out:List Nat) (fl:Bool) (hm:Mins (fun s=>s ||| E=E) good out) (hs:SortedK out):SmR E good (.tup [.vec (seL out) fl,.val (.int .i64 (if out = [] then 4 else 0))])
set_option maxHeartbeats 16000000 in
theorem Z3U {E:Nat} (hE:E<18446744073709551616) {g:Nat} {caps:List PV} (hc:pureL caps) {good:Nat→Bool} (hg:∀ s,s<18446744073709551616→Spec Tryz.prog g (setN s :: caps) (· = .val (.bool (good s)))):Spec Tryz.prog 63 [.vec (nums (intsN (mem E))) false,.fn g caps] (SmR E good):=by
 have hcp:∀ D,innL D caps:=fun D=>ZC (fun _ h=>h.elim) _ hc
 have hL:(nums (intsN (mem E))).length=(mem E).length:=by rw [ZB,Z6H]
 have hpk:=Z5J E
 refine Z3 ok63 (Nat.le_of_ble_eq_true rfl) fun C hC=>?_
 (repeat'(first|refine Z2 13 ?_|refine Z1 13 ?_|refine st ?_|(apply B<;>intro hb<;>try cases hb)))<;>try refine At.mk ?_
 refine Zi rfl rfl rfl (fun hb=>?_) (fun hb=>?_)
 · have hmany : 12 < popK 64 E := by have := of_decide_eq_true hb; rw [hL] at this; omega
   (refine go ?_;repeat' (apply B<;>intro hb<;>try cases hb))
   exact Z5 rfl ⟨trivial,trivial,trivial⟩ (.many hmany)
 have hle:popK 64 E≤12:=by have:=of_decide_eq_false hb; rw [hL] at this; omega
 clear hb
 have hn12:(mem E).length≤12:=by omega
 have hpw:2 ^ (mem E).length≤4096:=Nat.le_trans (Nat.pow_le_pow_right (by decide) hn12) (by decide)
 have h16:IntKind.i64.wrap (1*2 ^ (min (((nums (intsN (mem E))).length:Nat):Int).toNat IntKind.i64.bits))=((2 ^ (mem E).length:Nat):Int):=by
  rw [hL]; exact shl1 _ (by omega)
 repeat' (first|refine Ze (Z11 (k:=6) rfl 1 (by decide)) ?_|(first|refine st ?_|(apply B<;>intro hb<;>try cases hb)))
 refine Z1S hC (fun m=>m≤2 ^ (mem E).length) (fun m=>2 ^ (mem E).length-m) 1 (fun m => [(0,.vec (nums (intsN (mem E))) false),(1,.fn g caps),(6,.own 0),(16,.val (.int .i64 ((2 ^ (mem E).length:Nat):Int))),(17,.val (.int .i64 (m:Int)))]) (fun m => [(0,⟨1,seL (smAll (mem E) good m)⟩)]) (by omega) 0 (Nat.zero_le _) (fun i=>i) (fun _ _=>rfl) ZL
  ⟨⟨_,rfl,.pure _ (Z9 _)⟩,⟨_,rfl,.pure _ hc⟩,⟨_,rfl,.own 0 (by decide)⟩,⟨_,by rw [← h16]; rfl,.pure _ trivial⟩,⟨_,rfl,.pure _ trivial⟩,trivial⟩ ⟨⟨by omega,_,rfl,.same _ trivial⟩,trivial⟩ ?_
 intro m hm
 have hinc:IntKind.i64.wrap ((m:Int)+1)=((m+1:Nat):Int):=IntWalk.i64_in _ ⟨by omega,by omega⟩
 (repeat'(first|refine Z2 18 ?_|refine Z1 18 ?_|refine st ?_|(apply B<;>intro hb<;>try cases hb)))<;>try refine At.mk ?_
 refine Zi rfl rfl rfl (fun hb=>?_) (fun hb=>?_)
 · have hml : m < 2 ^ (mem E).length := by have := of_decide_eq_true hb; omega
   clear hb
   (refine go ?_;repeat' (apply B<;>intro hb<;>try cases hb))
   refine Z1S hC (fun k=>k≤(mem E).length) (fun k=>(mem E).length-k) 2 (fun k => [(0,.vec (nums (intsN (mem E))) false),(1,.fn g caps),(6,.own 0),(7,.val (.int .i64 (m:Int))),(8,.ptr 1 0 0),(16,.val (.int .i64 ((2 ^ (mem E).length:Nat):Int))),(17,.val (.int .i64 (m:Int))),(20,.vec (nums (intsN (mem E))) false),(21,.val (.int .i64 ((mem E).length:Int))),(22,.val (.int .i64 (k:Int)))])
    (fun k => [(0,⟨1,seL (smAll (mem E) good m)⟩),(1,⟨1,[stC (subM ((mem E).take k) m)]⟩)]) (by omega) 0 (Nat.zero_le _) (fun i=>i) (fun _ _=>rfl) ZL
    ⟨⟨_,rfl,.pure _ (Z9 _)⟩,⟨_,rfl,.pure _ hc⟩,⟨_,rfl,.own 0 (by decide)⟩,⟨_,rfl,.pure _ trivial⟩,⟨_,rfl,.ptr (ρ:=fun i=>i) 1 0 0 (by decide)⟩,⟨_,rfl,.pure _ trivial⟩,⟨_,rfl,.pure _ trivial⟩,⟨_,rfl,.pure _ (Z9 _)⟩,⟨_,by rw [← hL]; rfl,.pure _ trivial⟩,⟨_,rfl,.pure _ trivial⟩,trivial⟩
    ⟨⟨by decide,_,rfl,.same _ (Z1j _)⟩,⟨by decide,⟨1,[[.vec [] true]]⟩,rfl,by rw [List.take_zero,show stC (subM [] m) = [.vec [] false] by (show [PV.vec (words (digs 0)) false]=_; rw [Zx]; rfl)]; exact RenB.single (ρ:=fun i=>i) (l0 := [.vec [] true]) (l := [.vec [] false]) (show RenLs _ _ [_] [_] from ⟨.low (.vec [] true) trivial,trivial⟩) rfl⟩,trivial⟩ ?_
   intro k hk
   have hkinc:IntKind.i64.wrap ((k:Int)+1)=((k+1:Nat):Int):=IntWalk.i64_in _ ⟨by omega,by omega⟩
   have nextK:∀ {v:PV},v=.agg (stC (subM ((mem E).take (k+1)) m))→v=.agg (stC (subM ((mem E).take (k+1)) m)):=fun h=>h
   (repeat'(first|refine Z2 23 ?_|refine Z1 23 ?_|refine st ?_|(apply B<;>intro hb<;>try cases hb)))<;>try refine At.mk ?_
   refine Zi rfl rfl rfl (fun hb=>?_) (fun hb=>?_)
   · have hkl : k < (mem E).length := by have := of_decide_eq_true hb; omega
     clear hb
     have hget : (intsN (mem E))[k]'(by rw [Z6H]; exact hkl) = (((mem E)[k] : Nat) : Int) := by simp [intsN]
     have hsn:=Z9d ((mem E).take k) (mem E)[k] m
     rw [← Z7u hkl,List.length_take,Nat.min_eq_left (Nat.le_of_lt hkl)] at hsn
     have hr64:=Z1t (List.getElem_mem hkl)
     have hcur:subM ((mem E).take k) m<18446744073709551616:=Z7t (n:=18446744073709551616) (fr:=E) (orSub.2 fun i hi=>by
      obtain⟨j,hj,h1,_⟩:=(Z4P _ _ _).1 hi
      exact (Z1P hE).1 (h1▸List.mem_of_mem_take (List.getElem_mem hj))) hE
     have hand:bits .and .i64 ((m / 2 ^ k:Nat):Int) 1=((m / 2 ^ k % 2:Nat):Int):=by
      rw [show (1:Int)=((1:Nat):Int) from rfl,Z88 _ 1 (Nat.lt_of_le_of_lt (Nat.div_le_self _ _) (by omega)) (by decide),Nat.and_one_is_mod]
     (refine go ?_;repeat' (apply B<;>intro hb<;>try cases hb))
     refine Z7 (Zl (xs:=intsN (mem E)) (g:=fun x => [.val (.int .i64 x)]) rfl rfl k rfl (by rw [Z6H]; exact hkl) rfl) rfl rfl ?_
     rw [hget]
     generalize (mem E)[k]=q at hsn hr64 ⊢
     (repeat'(first|refine Z2 29 ?_|refine Z1 29 ?_|refine st ?_|(apply B<;>intro hb<;>try cases hb)))<;>try refine At.mk ?_
     refine Zn rfl rfl rfl (Z2y m k (by omega)) ?_
     refine Zn rfl rfl rfl hand ?_
     refine Z2e rfl rfl rfl (Z5l m k) ?_
     cases hbit:m.testBit k with
     | false =>
       rw [hbit,if_neg (by decide),Nat.or_zero] at hsn
       (refine go ?_;repeat' (apply B<;>intro hb<;>try cases hb))
       exact⟨k+1,fun i=>i,hkl,by omega,fun _ _=>rfl,ZL,⟨⟨_,rfl,.pure _ (Z9 _)⟩,⟨_,rfl,.pure _ hc⟩,⟨_,rfl,.own 0 (by decide)⟩,⟨_,rfl,.pure _ trivial⟩,⟨_,rfl,.ptr (ρ:=fun i=>i) 1 0 0 (by decide)⟩,⟨_,rfl,.pure _ trivial⟩,⟨_,rfl,.pure _ trivial⟩,⟨_,rfl,.pure _ (Z9 _)⟩,⟨_,rfl,.pure _ trivial⟩,⟨_,by show some _=some _; rw [hkinc],.pure _ trivial⟩,trivial⟩,
        ⟨⟨by decide,_,rfl,.same _ (Z1j _)⟩,⟨by decide,_,rfl,by rw [hsn]; exact .same _ ⟨Z5N _,trivial⟩⟩,trivial⟩⟩
     | true =>
       rw [hbit,if_pos rfl] at hsn
       have hws:=Z3j (subM ((mem E).take k) m) (Nat.le_trans (Z2a hcur) (by decide)) (q:Int)
       rw [withN,if_pos ⟨by omega,by omega⟩,Int.toNat_natCast,← hsn] at hws
       (refine go ?_;repeat' (apply B<;>intro hb<;>try cases hb))
       refine Z4 hws rfl rfl rfl ⟨Z0 _,trivial,trivial⟩ rfl ?_
       (refine go ?_;repeat' (apply B<;>intro hb<;>try cases hb))
       exact⟨k+1,fun i=>i,hkl,by omega,fun _ _=>rfl,ZL,⟨⟨_,rfl,.pure _ (Z9 _)⟩,⟨_,rfl,.pure _ hc⟩,⟨_,rfl,.own 0 (by decide)⟩,⟨_,rfl,.pure _ trivial⟩,⟨_,rfl,.ptr (ρ:=fun i=>i) 1 0 0 (by decide)⟩,⟨_,rfl,.pure _ trivial⟩,⟨_,rfl,.pure _ trivial⟩,⟨_,rfl,.pure _ (Z9 _)⟩,⟨_,rfl,.pure _ trivial⟩,⟨_,by show some _=some _; rw [hkinc],.pure _ trivial⟩,trivial⟩,
        ⟨⟨by decide,_,rfl,.same _ (Z1j _)⟩,⟨by decide,_,rfl,.same _ ⟨Z5N _,trivial⟩⟩,trivial⟩⟩
   · have hkl : k = (mem E).length := by have := of_decide_eq_false hb; omega
     subst hkl
     rw [List.take_length]
     clear hb
     have hst:smAll (mem E) good (m+1)=smStep good (smAll (mem E) good m) (subM (mem E) m):=rfl
     have hs64:=ZeG (m:=m) hE
     have hout:=Z8r hE good m
     have hol:=Z9h (mem E) good m
     generalize subM (mem E) m=s at hst hs64 ⊢
     generalize smAll (mem E) good m=out at hst hout hol ⊢
     cases out with
     | nil =>
       (refine go ?_;repeat' (apply B<;>intro hb<;>try cases hb))
       refine Zt (hg s hs64) rfl rfl rfl ⟨Z0 _,hc⟩ ?_
       cases hgs:good s with
       | false =>
         have hstep:smStep good [] s = []:=by unfold smStep; rw [hgs]; rfl
         (refine go ?_;repeat' (apply B<;>intro hb<;>try cases hb))
         exact⟨m+1,(fun i=>i),by omega,by omega,fun j hj=>absurd hj (Nat.not_lt_zero _),ZK rfl,⟨⟨_,rfl,.pure _ (Z9 _)⟩,⟨_,rfl,.pure _ hc⟩,⟨_,rfl,.own (ρ:=(fun i=>i)) 0 (by decide)⟩,⟨_,rfl,.pure _ trivial⟩,⟨_,by show some _=some _; rw [hinc],.pure _ trivial⟩,trivial⟩,⟨⟨by decide,_,rfl,by rw [hst,hstep]; exact .same _ (Z1j _)⟩,trivial⟩⟩
       | true =>
         have hstep:smStep good [] s = [s]:=by unfold smStep; rw [hgs]; rfl
         (refine go ?_;repeat' (apply B<;>intro hb<;>try cases hb))
         exact⟨m+1,mv 0 32,by omega,by omega,fun j hj=>absurd hj (Nat.not_lt_zero _),ZK rfl,⟨⟨_,rfl,.pure _ (Z9 _)⟩,⟨_,rfl,.pure _ hc⟩,⟨_,rfl,.own (ρ:=mv 0 32) 0 (by decide)⟩,⟨_,rfl,.pure _ trivial⟩,⟨_,by show some _=some _; rw [hinc],.pure _ trivial⟩,trivial⟩,⟨⟨by decide,_,rfl,by rw [hst,hstep]; exact .same ⟨1,seL [s]⟩ (Z1j [s])⟩,trivial⟩⟩
     | cons a r =>
       rw [List.length_cons] at hol
       have ha64:=hout a (List.mem_cons_self ..)
       have hpos:decide (((seL (a :: r)).length:Int)>0)=true:=decide_eq_true (by rw [ZaC,List.length_cons];omega)
       have hsc:=ZaE good a r s
       have l1:=Z3k s hs64
       have l2:=Z3k a ha64
       generalize popK 64 s=ps at hsc l1
       generalize popK 64 a=pa at hsc l2
       (repeat'(first|refine Z2 38 ?_|refine Z1 38 ?_|refine st ?_|(apply B<;>intro hb<;>try cases hb)))<;>try refine At.mk ?_
       refine Zq (Zw rfl hpos) rfl rfl ?_
       (refine go ?_;repeat' (apply B<;>intro hb<;>try cases hb))
       refine Zt l1 rfl rfl rfl ⟨Z0 _,trivial⟩ ?_
       (refine go ?_;repeat' (apply B<;>intro hb<;>try cases hb))
       refine Zq (ZS (b:=⟨1,seL (a :: r)⟩) rfl rfl rfl 0 rfl (Nat.zero_lt_succ _) rfl) rfl rfl ?_
       (refine go ?_;repeat' (apply B<;>intro hb<;>try cases hb))
       refine Zt l2 rfl rfl rfl ⟨Z0 _,trivial⟩ ?_
       by_cases h1:pa<ps
       · have hd : decide (((ps : Nat) : Int) > ((pa : Nat) : Int)) = true := decide_eq_true (by omega)
         have hstep:smStep good (a :: r) s=a :: r:=by rw [hsc,if_pos h1]
         refine Z2S rfl ?_
         refine Zq (Zw rfl hd) rfl rfl ?_
         (refine go ?_;repeat' (apply B<;>intro hb<;>try cases hb))
         exact⟨m+1,(fun i=>i),by omega,by omega,fun j hj=>absurd hj (Nat.not_lt_zero _),ZK rfl,⟨⟨_,rfl,.pure _ (Z9 _)⟩,⟨_,rfl,.pure _ hc⟩,⟨_,rfl,.own (ρ:=(fun i=>i)) 0 (by decide)⟩,⟨_,rfl,.pure _ trivial⟩,⟨_,by show some _=some _; rw [hinc],.pure _ trivial⟩,trivial⟩,⟨⟨by decide,_,rfl,by rw [hst,hstep]; exact .same _ (Z1j _)⟩,trivial⟩⟩
       · have hd : decide (((ps : Nat) : Int) > ((pa : Nat) : Int)) = false := decide_eq_false (by omega)
         refine Z2S rfl ?_
         refine Zq (Zw rfl hd) rfl rfl ?_
         (refine go ?_;repeat' (apply B<;>intro hb<;>try cases hb))
         refine Zt (hg s hs64) rfl rfl rfl ⟨Z0 _,hc⟩ ?_
         cases hgs:good s with
         | false =>
           have hstep:smStep good (a :: r) s=a :: r:=by rw [hsc,if_neg h1,hgs]; rfl
           (refine go ?_;repeat' (apply B<;>intro hb<;>try cases hb))
           exact⟨m+1,(fun i=>i),by omega,by omega,fun j hj=>absurd hj (Nat.not_lt_zero _),ZK rfl,⟨⟨_,rfl,.pure _ (Z9 _)⟩,⟨_,rfl,.pure _ hc⟩,⟨_,rfl,.own (ρ:=(fun i=>i)) 0 (by decide)⟩,⟨_,rfl,.pure _ trivial⟩,⟨_,by show some _=some _; rw [hinc],.pure _ trivial⟩,trivial⟩,⟨⟨by decide,_,rfl,by rw [hst,hstep]; exact .same _ (Z1j _)⟩,trivial⟩⟩
         | true =>
           (repeat'(first|refine Z2 56 ?_|refine Z1 56 ?_|refine st ?_|(apply B<;>intro hb<;>try cases hb)))<;>try refine At.mk ?_
           refine Zq (Zw rfl hpos) rfl rfl ?_
           (refine go ?_;repeat' (apply B<;>intro hb<;>try cases hb))
           refine Zt l1 rfl rfl rfl ⟨Z0 _,trivial⟩ ?_
           (refine go ?_;repeat' (apply B<;>intro hb<;>try cases hb))
           refine Zq (ZS (b:=⟨1,seL (a :: r)⟩) rfl rfl rfl 0 rfl (Nat.zero_lt_succ _) rfl) rfl rfl ?_
           (refine go ?_;repeat' (apply B<;>intro hb<;>try cases hb))
           refine Zt l2 rfl rfl rfl ⟨Z0 _,trivial⟩ ?_
           by_cases h2:ps<pa
           · have hd2 : decide (((ps : Nat) : Int) < ((pa : Nat) : Int)) = true := decide_eq_true (by omega)
             have hstep:smStep good (a :: r) s = [s]:=by rw [hsc,if_neg h1,hgs,if_pos rfl,if_pos h2]
             refine Z2S rfl ?_
             refine Zq (Zw rfl hd2) rfl rfl ?_
             (refine go ?_;repeat' (apply B<;>intro hb<;>try cases hb))
             exact⟨m+1,mv 0 33,by omega,by omega,fun j hj=>absurd hj (Nat.not_lt_zero _),ZK rfl,⟨⟨_,rfl,.pure _ (Z9 _)⟩,⟨_,rfl,.pure _ hc⟩,⟨_,rfl,.own (ρ:=mv 0 33) 0 (by decide)⟩,⟨_,rfl,.pure _ trivial⟩,⟨_,by show some _=some _; rw [hinc],.pure _ trivial⟩,trivial⟩,⟨⟨by decide,_,rfl,by rw [hst,hstep]; exact .same ⟨1,seL [s]⟩ (Z1j [s])⟩,trivial⟩⟩
           · have hd2 : decide (((ps : Nat) : Int) < ((pa : Nat) : Int)) = false := decide_eq_false (by omega)
             have hstep:smStep good (a :: r) s=a :: r ++ [s]:=by rw [hsc,if_neg h1,hgs,if_pos rfl,if_neg h2]
             refine Z2S rfl ?_
             refine Zq (Zw rfl hd2) rfl rfl ?_
             (repeat'(first|refine Z2 71 ?_|refine Z1 71 ?_|refine st ?_|(apply B<;>intro hb<;>try cases hb)))<;>try refine At.mk ?_
             refine Zz (Zy (k:=0) (m := [stC s]) (fl:=true) (b:=⟨1,seL (a :: r)⟩) rfl rfl rfl (fun c hc=>by rw [List.mem_singleton] at hc; subst hc; rfl) rfl (by
              show ((seL (a :: r)).length+1)*24≤_
              rw [ZaC,List.length_cons];omega)) rfl rfl ?_
             (refine go ?_;repeat' (apply B<;>intro hb<;>try cases hb))
             exact⟨m+1,mv 0 32,by omega,by omega,fun j hj=>absurd hj (Nat.not_lt_zero _),ZK rfl,⟨⟨_,rfl,.pure _ (Z9 _)⟩,⟨_,rfl,.pure _ hc⟩,⟨_,rfl,.own (ρ:=mv 0 32) 0 (by decide)⟩,⟨_,rfl,.pure _ trivial⟩,⟨_,by show some _=some _; rw [hinc],.pure _ trivial⟩,trivial⟩,⟨⟨by decide,_,rfl,by rw [hst,hstep,show seL (a :: r ++ [s])=seL (a :: r) ++ [stC s] by simp [seL]]; exact .same _ (by show pureLL (seL (a :: r) ++ [stC s]); rw [show seL (a :: r) ++ [stC s]=seL (a :: r ++ [s]) by simp [seL]]; exact Z1j _)⟩,trivial⟩⟩
 · have hml : m = 2 ^ (mem E).length := by have := of_decide_eq_false hb; omega
   subst hml
   clear hb
   have hM:=ZeF hE good
   have hout:=Z8r hE good (2 ^ (mem E).length)
   generalize smAll (mem E) good (2 ^ (mem E).length)=out at hM hout ⊢
   cases out with
   | nil =>
     (refine go ?_;repeat' (apply B<;>intro hb<;>try cases hb))
     exact Z5 rfl ⟨trivial,trivial,trivial⟩ (.found hle [] true hM List.Pairwise.nil)
   | cons a r =>
     (repeat'(first|refine Z2 75 ?_|refine Z1 75 ?_|refine st ?_|(apply B<;>intro hb<;>try cases hb)))<;>try refine At.mk ?_
     refine Z7 (Zw (v:=false) rfl (by show (((seL (a :: r)).length:Int) == 0)=false; rw [ZaC,beq_eq_false_iff_ne,List.length_cons];omega)) rfl rfl ?_
     (refine go ?_;repeat' (apply B<;>intro hb<;>try cases hb))
     refine ZX rfl rfl (ZaD (ob:=0) (a :: r) hout rfl) ?_
     rintro n' x h' ⟨rfl,rfl,ys,hp,hs,rfl⟩
     (repeat'(first|refine Z2 78 ?_|refine Z1 78 ?_|refine st ?_|(apply B<;>intro hb<;>try cases hb)))<;>try refine At.mk ?_
     refine Ze (Zp (k:=6) (id:=0) (b:=⟨1,seL ys⟩) rfl rfl (Z1j ys)) ?_
     (refine go ?_;repeat' (apply B<;>intro hb<;>try cases hb))
     have hne:ys≠[]:=fun h=>by subst h; have:=hp.length_eq; simp at this
     have:=SmR.found hle ys false (hM.perm hp) hs
     rw [if_neg hne] at this
     exact Z5 rfl ⟨Z1j _,trivial,trivial⟩ this
inductive RepR (f:Fm) (E:Nat) (good:Nat→Bool):PV→Prop
 | bad (h:checkM f≠0):RepR f E good (.tup [.vec [] true,.val (.int .i64 (checkM f))])
 | sm (h:checkM f=0) {r:PV} (hr:SmR E good r):RepR f E good r
set_option maxHeartbeats 2000000 in
theorem Z33 {f:Fm} (hm:HoldsW f) (hd:f.depth≤1000) (hsz:f.size≤1099511627776) (l:List Pr) (S:List Nat) (E:Nat) (hE:E<18446744073709551616) (h0:E.testBit 0=false):Spec Tryz.prog 20 [.agg (fC .u8 f),setN E,hierP l S] (RepR f E (gdR f l E)):=by
 have hcp:pureL [PV.cp (fC .u8 f),.cp [hierP l S],.cp [.vec (words (digs E)) false]]:=⟨Zk _ _,⟨Zv l S,trivial⟩,⟨Zb _,trivial⟩,trivial⟩
 refine Z3 ok20 (Nat.le_of_ble_eq_true rfl) fun C hC=>?_
 refine Zm ?_
 refine Za ?_
 refine Z6 rfl rfl rfl ?_
 refine Z6 rfl rfl rfl ?_
 refine Z6 rfl rfl rfl ?_
 (refine go ?_;repeat' (apply B<;>intro hb<;>try cases hb))
 refine Z4 (Z7x f hd hsz l S E hE h0) rfl rfl rfl ⟨Zk _ _,Zv l S,Z0 E,trivial⟩ rfl ?_
 by_cases hk:checkM f=0
 · rw [hk]
   (refine go ?_;repeat' (apply B<;>intro hb<;>try cases hb))
   refine Z4 (Z6g E hE) rfl rfl rfl ⟨Z0 E,trivial⟩ rfl ?_
   (refine go ?_;repeat' (apply B<;>intro hb<;>try cases hb))
   refine Zo rfl rfl (Z3U hE (caps := [PV.cp (fC .u8 f),.cp [hierP l S],.cp [.vec (words (digs E)) false]]) hcp fun s hs=>Z8s hm l S E s hE hs) ⟨Z9 _,hcp,trivial⟩ rfl ?_
   rintro r hr
   rcases hr with h|⟨h,out,fl,h1,h2⟩
   · (refine go ?_;repeat' (apply B<;>intro hb<;>try cases hb))
     exact Z5 rfl ⟨trivial,trivial,trivial⟩ (.sm hk (.many h))
   · (refine go ?_;repeat' (apply B<;>intro hb<;>try cases hb))
     exact Z5 rfl ⟨Z1j _,trivial,trivial⟩ (.sm hk (.found h out fl h1 h2))
 · (repeat'(first|refine Z2 14 ?_|refine Z1 14 ?_|refine st ?_|(apply B<;>intro hb<;>try cases hb)))<;>try refine At.mk ?_
   refine Z7 (Zw (v:=true) rfl (bne_iff_ne.2 hk)) rfl rfl ?_
   (refine go ?_;repeat' (apply B<;>intro hb<;>try cases hb))
   exact Z5 rfl ⟨trivial,trivial,trivial⟩ (.bad hk)
set_option maxHeartbeats 2000000 in
theorem Z2l {f:Fm} (hm:HoldsW f) (hd:f.depth≤1000) (hsz:f.size≤1099511627776) (l:List Pr) (S:List Nat) (E Y:Nat) (hE:E<18446744073709551616) (hY:Y<18446744073709551616) (h0:(E ||| Y).testBit 0=false):Spec Tryz.prog 21 [.agg (fC .u8 f),setN E,setN Y,hierP l S] (RepR f (minusN Y E) (gdA f l E)):=by
 have hcp:pureL [PV.cp (fC .u8 f),.cp [hierP l S],.cp [.vec (words (digs E)) false]]:=⟨Zk _ _,⟨Zv l S,trivial⟩,⟨Zb _,trivial⟩,trivial⟩
 have hM:=Z1v E hY
 refine Z3 ok21 (Nat.le_of_ble_eq_true rfl) fun C hC=>?_
 refine Zm ?_
 refine Za ?_
 refine Z6 rfl rfl rfl ?_
 refine Z6 rfl rfl rfl ?_
 refine Z6 rfl rfl rfl ?_
 refine Z6 rfl rfl rfl ?_
 (refine go ?_;repeat' (apply B<;>intro hb<;>try cases hb))
 refine Zt (Z2r E Y hE hY) rfl rfl rfl ⟨Z0 E,Z0 Y,trivial⟩ ?_
 refine Zt (Z7x f hd hsz l S (E ||| Y) (Z38 hE hY) h0) rfl rfl rfl ⟨Zk _ _,Zv l S,Z0 _,trivial⟩ ?_
 by_cases hk:checkM f=0
 · rw [hk]
   (refine go ?_;repeat' (apply B<;>intro hb<;>try cases hb))
   refine Z4 (Z31 Y E hY hE) rfl rfl rfl ⟨Z0 Y,Z0 E,trivial⟩ rfl ?_
   refine Z4 (Z6g _ hM) rfl rfl rfl ⟨Z0 _,trivial⟩ rfl ?_
   (refine go ?_;repeat' (apply B<;>intro hb<;>try cases hb))
   refine Zo rfl rfl (Z3U hM (caps := [PV.cp (fC .u8 f),.cp [hierP l S],.cp [.vec (words (digs E)) false]]) hcp fun s hs=>Z6G hm l S E s hE hs) ⟨Z9 _,hcp,trivial⟩ rfl ?_
   rintro r hr
   rcases hr with h|⟨h,out,fl,h1,h2⟩
   · (refine go ?_;repeat' (apply B<;>intro hb<;>try cases hb))
     exact Z5 rfl ⟨trivial,trivial,trivial⟩ (.sm hk (.many h))
   · (refine go ?_;repeat' (apply B<;>intro hb<;>try cases hb))
     exact Z5 rfl ⟨Z1j _,trivial,trivial⟩ (.sm hk (.found h out fl h1 h2))
 · (repeat'(first|refine Z2 18 ?_|refine Z1 18 ?_|refine st ?_|(apply B<;>intro hb<;>try cases hb)))<;>try refine At.mk ?_
   refine Z7 (Zw (v:=true) rfl (bne_iff_ne.2 hk)) rfl rfl ?_
   (refine go ?_;repeat' (apply B<;>intro hb<;>try cases hb))
   exact Z5 rfl ⟨trivial,trivial,trivial⟩ (.bad hk)
theorem ZeI {l:List Cu} {S i:Nat} (hi:i<l.length) (hno:(l.take i).any (fun c=>hoC c S)=false) (h:hoC l[i] S=true):firstC l S=some l[i]:=by
 have e:l=l.take i++l[i] :: l.drop (i+1):=by rw [← List.drop_eq_getElem_cons hi,List.take_append_drop]
 have h1:(l.take i).find? (fun c=>hoC c S)=none:=by rw [List.find?_eq_none]; rw [List.any_eq_false] at hno; exact hno
 unfold firstC
 generalize l[i]=c at e h
 rw [e,List.find?_append,h1,List.find?_cons,h]
 rfl
theorem Zg1 {f:Fm} (h:checkM f≠0):vioL f = []:=by unfold vioL; rw [if_neg h]
def ofWP (o:Option Cu):PV:=.tup [cuP (o.getD (0,0)),.val (.bool o.isSome)]
theorem Z6I (o:Option Cu):(ofWP o).pure:=⟨Z5I _,trivial,trivial⟩
theorem Z4R:ofWP none=.tup [.agg [.vec [] false,.vec [] false],.val (.bool false)]:=by
 show PV.tup [.agg [.vec (words (digs 0)) false,.vec (words (digs 0)) false],_]=_
 rw [Zx]; rfl
set_option maxHeartbeats 4000000 in
theorem ZbD (f:Fm) (hd:f.depth≤1000) (hsz:f.size≤1099511627776) (S:Nat) (hS:S<18446744073709551616):Spec Tryz.prog 30 [.agg (fC .u8 f),setN S] (· = ofWP (firstC (vioL f) S)):=by
 have hok:=ZgQ f
 have hvp:∀ D,innLL D ((vioL f).map cuC):=fun D=>Zd (fun _ h=>h.elim) _ (Z1e _)
 have hnl:((vioL f).map cuC).length=(vioL f).length:=by simp
 have hfp:=fun D=>Z5i .u8 f D
 refine Z3 ok30 (Nat.le_of_ble_eq_true rfl) fun C hC=>?_
 refine Zm ?_
 refine Za ?_
 refine Z6 rfl rfl rfl ?_
 refine Z6 rfl rfl rfl ?_
 (refine go ?_;repeat' (apply B<;>intro hb<;>try cases hb))
 refine Z4 (Z5a f hd hsz) rfl rfl rfl ⟨Zk _ _,trivial,trivial⟩ rfl ?_
 by_cases hk:checkM f=0
 · rw [hk]
   (refine go ?_;repeat' (apply B<;>intro hb<;>try cases hb))
   refine Z4 (Z6r f hd hsz) rfl rfl rfl ⟨Zk _ _,trivial⟩ rfl ?_
   rw [hk]
   (refine go ?_;repeat' (apply B<;>intro hb<;>try cases hb))
   refine Z37 (k:=19) rfl fun hmax=>?_
   have hlm:(vioL f).length≤maxVec:=by rw [← hnl]; exact hmax
   refine Zr hC (fun i=>i≤(vioL f).length∧((vioL f).take i).any (fun c=>hoC c S)=false) (fun i=>(vioL f).length-i) 1 (fun i => [(3,.cp [.vec (words (digs S)) false]),(4,.ptr 0 0 0),(19,.vec ((vioL f).map cuC) false),(20,.val (.int .i64 ((vioL f).length:Int))),(21,.val (.int .i64 (i:Int)))])
    (fun i => [(0,⟨2,[[.vec [] true,.vec [] true]]⟩)]) (Nat.zero_le _) 0 ⟨Nat.zero_le _,rfl⟩
    ⟨⟨rfl,ZE _ _,trivial⟩,⟨rfl,show (0:Nat)<1 by decide⟩,⟨rfl,hvp _⟩,⟨by rw [← hnl]; rfl,trivial⟩,⟨rfl,trivial⟩,trivial⟩ ⟨⟨by decide,rfl,⟨⟨trivial,trivial,trivial⟩,trivial⟩⟩,trivial⟩ ?_
   rintro i ⟨hi,hno⟩
   have hinc:IntKind.i64.wrap ((i:Int)+1)=((i+1:Nat):Int):=IntWalk.i64_in _ ⟨by omega,by simp only [maxVec] at hlm; omega⟩
   (repeat'(first|refine Z2 22 ?_|refine Z1 22 ?_|refine st ?_|(apply B<;>intro hb<;>try cases hb)))<;>try refine At.mk ?_
   refine Zi rfl rfl rfl (fun hb=>?_) (fun hb=>?_)
   · have hil : i < (vioL f).length := by have := of_decide_eq_true hb; omega
     clear hb
     have hci:=hok _ (List.getElem_mem hil)
     (refine go ?_;repeat' (apply B<;>intro hb<;>try cases hb))
     refine Z7 (Zl (xs:=vioL f) (g:=cuC) rfl rfl i rfl hil rfl) rfl rfl ?_
     (refine go ?_;repeat' (apply B<;>intro hb<;>try cases hb))
     refine Z4 (Zaa (vioL f)[i] S hci hS) rfl rfl rfl ⟨Z5I _,Z0 _,trivial⟩ rfl ?_
     cases hh:hoC (vioL f)[i] S with
     | false =>
       (refine go ?_;repeat' (apply B<;>intro hb<;>try cases hb))
       exact⟨i+1,⟨by omega,Z84 hil hno hh⟩,by omega,⟨⟨rfl,ZE _ _,trivial⟩,⟨rfl,show (0:Nat)<1 by decide⟩,⟨rfl,hvp _⟩,⟨rfl,trivial⟩,⟨by show some _=some _; rw [hinc],trivial⟩,trivial⟩,⟨⟨by decide,rfl,⟨⟨trivial,trivial,trivial⟩,trivial⟩⟩,trivial⟩⟩
     | true =>
       (refine go ?_;repeat' (apply B<;>intro hb<;>try cases hb))
       exact Z5 rfl (Z6I (some (vioL f)[i])) (by rw [ZeI hil hno hh]; rfl)
   · have hil : i = (vioL f).length := by have := of_decide_eq_false hb; omega
     subst hil
     rw [List.take_length] at hno
     clear hb
     (refine go ?_;repeat' (apply B<;>intro hb<;>try cases hb))
     refine Z3X rfl (Z6I none |> fun h=>by rw [Z4R] at h; exact h) ?_
     rw [show firstC (vioL f) S=none from Zaz.2 hno,Z4R]; rfl
 · (repeat'(first|refine Z2 12 ?_|refine Z1 12 ?_|refine st ?_|(apply B<;>intro hb<;>try cases hb)))<;>try refine At.mk ?_
   refine Z7 (Zw (v:=true) rfl (bne_iff_ne.2 hk)) rfl rfl ?_
   (refine go ?_;repeat' (apply B<;>intro hb<;>try cases hb))
   refine Z3X rfl (Z6I none |> fun h=>by rw [Z4R] at h; exact h) ?_
   rw [Zg1 hk,show firstC [] S=none from rfl,Z4R]; rfl
end Go.Proofs.YtjpkfigmmmngnaaGreatDoor
namespace Go.Proofs.YtjpkfigmmmngnaaGreatDoor
open Go.Shelf
def ZaF:Go.Shelf.Ren:=⟨fun|171=>104|243=>145|246=>169|283=>207|284=>208|285=>209|286=>210|129=>182|317=>223|318=>224|319=>225|320=>226|337=>230|338=>71|n=>n,fun|3=>3|9=>9|2=>2|4=>4|171=>258|0=>0|53=>23|37=>22|5=>5|173=>260|212=>273|51=>238|20=>20|213=>274|46=>168|232=>279|233=>176|n=>n,fun|17=>2|18=>3|19=>0|n=>n⟩
theorem lays171:Go.Proofs.Lays.n171 Tryz.prog ZaF:={
 mixed:=by kernel_rfl
 f129:=Tryz.func182.trans (congrArg some (by kernel_rfl))
 f171:=Tryz.func104.trans (congrArg some (by kernel_rfl))
 f243:=Tryz.func145.trans (congrArg some (by kernel_rfl))
 f246:=Tryz.func169.trans (congrArg some (by kernel_rfl))
 f283:=Tryz.func207.trans (congrArg some (by kernel_rfl))
 f284:=Tryz.func208.trans (congrArg some (by kernel_rfl))
 f285:=Tryz.func209.trans (congrArg some (by kernel_rfl))
 f286:=Tryz.func210.trans (congrArg some (by kernel_rfl))
 f317:=Tryz.func223.trans (congrArg some (by kernel_rfl))
 f318:=Tryz.func224.trans (congrArg some (by kernel_rfl))
 f319:=Tryz.func225.trans (congrArg some (by kernel_rfl))
 f320:=Tryz.func226.trans (congrArg some (by kernel_rfl))
 f337:=Tryz.func230.trans (congrArg some (by kernel_rfl))
 f338:=Tryz.func71.trans (congrArg some (by kernel_rfl))
 t0:=Tryz.underlying0
 a0:=Tryz.isAgg0
 z0:=Tryz.sizeOf0
 v0:=Tryz.zeroValue0
 t2:=Tryz.underlying2
 a2:=Tryz.isAgg2
 z2:=Tryz.sizeOf2
 v2:=Tryz.zeroValue2
 t3:=Tryz.underlying3
 a3:=Tryz.isAgg3
 z3:=Tryz.sizeOf3
 v3:=Tryz.zeroValue3
 t4:=Tryz.underlying4
 a4:=Tryz.isAgg4
 z4:=Tryz.sizeOf4
 v4:=Tryz.zeroValue4
 t5:=Tryz.underlying5
 a5:=Tryz.isAgg5
 z5:=Tryz.sizeOf5
 v5:=Tryz.zeroValue5
 t9:=Tryz.underlying9
 a9:=Tryz.isAgg9
 z9:=Tryz.sizeOf9
 v9:=Tryz.zeroValue9
 t20:=Tryz.underlying20
 a20:=Tryz.isAgg20
 z20:=Tryz.sizeOf20
 v20:=Tryz.zeroValue20
 t37:=Tryz.underlying22
 a37:=Tryz.isAgg22
 z37:=Tryz.sizeOf22
 v37:=Tryz.zeroValue22
 t46:=Tryz.underlying168
 a46:=Tryz.isAgg168
 z46:=Tryz.sizeOf168
 v46:=Tryz.zeroValue168
 t51:=Tryz.underlying238
 a51:=Tryz.isAgg238
 z51:=Tryz.sizeOf238
 v51:=Tryz.zeroValue238
 t53:=Tryz.underlying23
 a53:=Tryz.isAgg23
 z53:=Tryz.sizeOf23
 v53:=Tryz.zeroValue23
 t171:=Tryz.underlying258
 a171:=Tryz.isAgg258
 z171:=Tryz.sizeOf258
 v171:=Tryz.zeroValue258
 t173:=Tryz.underlying260
 a173:=Tryz.isAgg260
 z173:=Tryz.sizeOf260
 v173:=Tryz.zeroValue260
 t212:=Tryz.underlying273
 a212:=Tryz.isAgg273
 z212:=Tryz.sizeOf273
 v212:=Tryz.zeroValue273
 t213:=Tryz.underlying274
 a213:=Tryz.isAgg274
 z213:=Tryz.sizeOf274
 t232:=Tryz.underlying279
 a232:=Tryz.isAgg279
 z232:=Tryz.sizeOf279
 v232:=Tryz.zeroValue279
 t233:=Tryz.underlying176
 a233:=Tryz.isAgg176
 z233:=Tryz.sizeOf176
 v233:=Tryz.zeroValue176
 g17:=by kernel_rfl
 g18:=by kernel_rfl
 g19:=by kernel_rfl }
def Z6J:Go.Shelf.Ren:=⟨fun|156=>100|165=>140|166=>107|169=>108|240=>146|241=>166|276=>170|277=>206|n=>n,fun|31=>95|9=>9|3=>3|4=>4|0=>0|20=>20|72=>158|76=>162|70=>156|37=>22|75=>160|127=>207|164=>226|5=>5|80=>104|n=>n,fun|n=>n⟩
theorem lays156:Go.Proofs.Lays.n156 Tryz.prog Z6J:={
 mixed:=by kernel_rfl
 f156:=Tryz.func100.trans (congrArg some (by kernel_rfl))
 f165:=Tryz.func140.trans (congrArg some (by kernel_rfl))
 f166:=Tryz.func107.trans (congrArg some (by kernel_rfl))
 f169:=Tryz.func108.trans (congrArg some (by kernel_rfl))
 f240:=Tryz.func146.trans (congrArg some (by kernel_rfl))
 f241:=Tryz.func166.trans (congrArg some (by kernel_rfl))
 f276:=Tryz.func170.trans (congrArg some (by kernel_rfl))
 f277:=Tryz.func206.trans (congrArg some (by kernel_rfl))
 t0:=Tryz.underlying0
 a0:=Tryz.isAgg0
 z0:=Tryz.sizeOf0
 v0:=Tryz.zeroValue0
 t3:=Tryz.underlying3
 a3:=Tryz.isAgg3
 z3:=Tryz.sizeOf3
 v3:=Tryz.zeroValue3
 t4:=Tryz.underlying4
 a4:=Tryz.isAgg4
 z4:=Tryz.sizeOf4
 v4:=Tryz.zeroValue4
 t9:=Tryz.underlying9
 a9:=Tryz.isAgg9
 z9:=Tryz.sizeOf9
 v9:=Tryz.zeroValue9
 t20:=Tryz.underlying20
 a20:=Tryz.isAgg20
 z20:=Tryz.sizeOf20
 v20:=Tryz.zeroValue20
 t31:=Tryz.underlying95
 a31:=Tryz.isAgg95
 z31:=Tryz.sizeOf95
 v31:=Tryz.zeroValue95
 t37:=Tryz.underlying22
 a37:=Tryz.isAgg22
 z37:=Tryz.sizeOf22
 v37:=Tryz.zeroValue22
 t70:=Tryz.underlying156
 a70:=Tryz.isAgg156
 z70:=Tryz.sizeOf156
 v70:=Tryz.zeroValue156
 t72:=Tryz.underlying158
 a72:=Tryz.isAgg158
 z72:=Tryz.sizeOf158
 v72:=Tryz.zeroValue158
 t75:=Tryz.underlying160
 a75:=Tryz.isAgg160
 z75:=Tryz.sizeOf160
 v75:=Tryz.zeroValue160
 t76:=Tryz.underlying162
 a76:=Tryz.isAgg162
 z76:=Tryz.sizeOf162
 v76:=Tryz.zeroValue162
 t127:=Tryz.underlying207
 a127:=Tryz.isAgg207
 z127:=Tryz.sizeOf207
 v127:=Tryz.zeroValue207
 t164:=Tryz.underlying226
 a164:=Tryz.isAgg226
 z164:=Tryz.sizeOf226
 v164:=Tryz.zeroValue226 }
theorem builderExtra156:Builder.Extra Tryz.prog Z6J:={
 sizeBuilder:=by kernel_rfl
 liesBuilder:=by kernel_rfl
 t5:=Tryz.underlying5
 a5:=Tryz.isAgg5
 z5:=Tryz.sizeOf5
 v5:=Tryz.zeroValue5
 infoByte:=by kernel_rfl
 cellsByte:=by kernel_rfl
 sizeByte:=by kernel_rfl
 neB5:=by decide }
def Z2m:Go.Shelf.Ren:=⟨fun|167=>105|170=>106|156=>100|165=>140|166=>107|169=>108|240=>146|241=>166|276=>170|277=>206|n=>n,fun|31=>95|9=>9|3=>3|4=>4|0=>0|20=>20|72=>158|76=>162|70=>156|37=>22|75=>160|127=>207|164=>226|5=>5|80=>104|n=>n,fun|n=>n⟩
theorem lays166:Go.Proofs.Lays.n166 Tryz.prog Z2m:={
 mixed:=by kernel_rfl
 f166:=Tryz.func107.trans (congrArg some (by kernel_rfl))
 f240:=Tryz.func146.trans (congrArg some (by kernel_rfl))
 f276:=Tryz.func170.trans (congrArg some (by kernel_rfl))
 t0:=Tryz.underlying0
 a0:=Tryz.isAgg0
 z0:=Tryz.sizeOf0
 v0:=Tryz.zeroValue0
 t3:=Tryz.underlying3
 a3:=Tryz.isAgg3
 z3:=Tryz.sizeOf3
 v3:=Tryz.zeroValue3
 t4:=Tryz.underlying4
 a4:=Tryz.isAgg4
 z4:=Tryz.sizeOf4
 v4:=Tryz.zeroValue4
 t9:=Tryz.underlying9
 a9:=Tryz.isAgg9
 z9:=Tryz.sizeOf9
 v9:=Tryz.zeroValue9
 t20:=Tryz.underlying20
 a20:=Tryz.isAgg20
 z20:=Tryz.sizeOf20
 v20:=Tryz.zeroValue20
 t37:=Tryz.underlying22
 a37:=Tryz.isAgg22
 z37:=Tryz.sizeOf22
 v37:=Tryz.zeroValue22
 t70:=Tryz.underlying156
 a70:=Tryz.isAgg156
 z70:=Tryz.sizeOf156
 v70:=Tryz.zeroValue156
 t72:=Tryz.underlying158
 a72:=Tryz.isAgg158
 z72:=Tryz.sizeOf158
 v72:=Tryz.zeroValue158
 t75:=Tryz.underlying160
 a75:=Tryz.isAgg160
 z75:=Tryz.sizeOf160
 v75:=Tryz.zeroValue160
 t164:=Tryz.underlying226
 a164:=Tryz.isAgg226
 z164:=Tryz.sizeOf226
 v164:=Tryz.zeroValue226 }
theorem lays167:Go.Proofs.Lays.n167 Tryz.prog Z2m:={
 mixed:=by kernel_rfl
 f167:=Tryz.func105.trans (congrArg some (by kernel_rfl))
 f240:=Tryz.func146.trans (congrArg some (by kernel_rfl))
 f276:=Tryz.func170.trans (congrArg some (by kernel_rfl))
 t0:=Tryz.underlying0
 a0:=Tryz.isAgg0
 z0:=Tryz.sizeOf0
 v0:=Tryz.zeroValue0
 t4:=Tryz.underlying4
 a4:=Tryz.isAgg4
 z4:=Tryz.sizeOf4
 v4:=Tryz.zeroValue4
 t5:=Tryz.underlying5
 a5:=Tryz.isAgg5
 z5:=Tryz.sizeOf5
 v5:=Tryz.zeroValue5
 t9:=Tryz.underlying9
 a9:=Tryz.isAgg9
 z9:=Tryz.sizeOf9
 v9:=Tryz.zeroValue9
 t20:=Tryz.underlying20
 a20:=Tryz.isAgg20
 z20:=Tryz.sizeOf20
 v20:=Tryz.zeroValue20
 t37:=Tryz.underlying22
 a37:=Tryz.isAgg22
 z37:=Tryz.sizeOf22
 v37:=Tryz.zeroValue22
 t70:=Tryz.underlying156
 a70:=Tryz.isAgg156
 z70:=Tryz.sizeOf156
 v70:=Tryz.zeroValue156
 t72:=Tryz.underlying158
 a72:=Tryz.isAgg158
 z72:=Tryz.sizeOf158
 v72:=Tryz.zeroValue158
 t75:=Tryz.underlying160
 a75:=Tryz.isAgg160
 z75:=Tryz.sizeOf160
 v75:=Tryz.zeroValue160
 t164:=Tryz.underlying226
 a164:=Tryz.isAgg226
 z164:=Tryz.sizeOf226
 v164:=Tryz.zeroValue226 }
theorem lays169:Go.Proofs.Lays.n169 Tryz.prog Z2m:={
 mixed:=by kernel_rfl
 f169:=Tryz.func108.trans (congrArg some (by kernel_rfl))
 t0:=Tryz.underlying0
 a0:=Tryz.isAgg0
 z0:=Tryz.sizeOf0
 v0:=Tryz.zeroValue0
 t3:=Tryz.underlying3
 a3:=Tryz.isAgg3
 z3:=Tryz.sizeOf3
 v3:=Tryz.zeroValue3
 t9:=Tryz.underlying9
 a9:=Tryz.isAgg9
 z9:=Tryz.sizeOf9
 v9:=Tryz.zeroValue9
 t37:=Tryz.underlying22
 a37:=Tryz.isAgg22
 z37:=Tryz.sizeOf22
 v37:=Tryz.zeroValue22
 t70:=Tryz.underlying156
 a70:=Tryz.isAgg156
 z70:=Tryz.sizeOf156
 v70:=Tryz.zeroValue156
 t72:=Tryz.underlying158
 a72:=Tryz.isAgg158
 z72:=Tryz.sizeOf158
 v72:=Tryz.zeroValue158
 t127:=Tryz.underlying207
 a127:=Tryz.isAgg207
 z127:=Tryz.sizeOf207
 v127:=Tryz.zeroValue207 }
theorem lays170:Go.Proofs.Lays.n170 Tryz.prog Z2m:={
 mixed:=by kernel_rfl
 f170:=Tryz.func106.trans (congrArg some (by kernel_rfl))
 t0:=Tryz.underlying0
 a0:=Tryz.isAgg0
 z0:=Tryz.sizeOf0
 v0:=Tryz.zeroValue0
 t3:=Tryz.underlying3
 a3:=Tryz.isAgg3
 z3:=Tryz.sizeOf3
 v3:=Tryz.zeroValue3
 t37:=Tryz.underlying22
 a37:=Tryz.isAgg22
 z37:=Tryz.sizeOf22
 v37:=Tryz.zeroValue22
 t70:=Tryz.underlying156
 a70:=Tryz.isAgg156
 z70:=Tryz.sizeOf156
 v70:=Tryz.zeroValue156
 t72:=Tryz.underlying158
 a72:=Tryz.isAgg158
 z72:=Tryz.sizeOf158
 v72:=Tryz.zeroValue158 }
theorem bxB:Builder.Extra Tryz.prog Z2m:={
 sizeBuilder:=by kernel_rfl
 liesBuilder:=by kernel_rfl
 t5:=Tryz.underlying5
 a5:=Tryz.isAgg5
 z5:=Tryz.sizeOf5
 v5:=Tryz.zeroValue5
 infoByte:=by kernel_rfl
 cellsByte:=by kernel_rfl
 sizeByte:=by kernel_rfl
 neB5:=by decide }
end Go.Proofs.YtjpkfigmmmngnaaGreatDoor
namespace Go.Proofs.YtjpkfigmmmngnaaGreatDoor
open Go.RowKit Go.Shelf
attribute [local go_sem] Oper.semAt_some
def txtS (xs:List Nat):List UInt8:=xs.foldl (fun acc x=>acc++((if 1<acc.length then [32] else [])++Go.Lib.decDigits x)) [123]
theorem ZeJ (xs:List Nat) (x:Nat):txtS (xs ++ [x])=txtS xs++((if 1<(txtS xs).length then [32] else [])++Go.Lib.decDigits x):=by rw [txtS,List.foldl_append]; rfl
def textB (N:Nat):ByteArray:=⟨(txtS (mem N) ++ [125]).toArray⟩
theorem Z7y {k:Nat} (hk:k<100):(Go.Lib.decDigits k).length≤2:=by
 by_cases h:k<10
 · rw [Go.Lib.decDigits_one h]; simp
 · rw [Go.Lib.decDigits_two h hk]; simp
theorem ZbE:∀ (xs:List Nat),(∀ x∈xs,x<100)→(txtS xs).length≤1+3*xs.length:=by
 have key:∀ (xs:List Nat) (acc:List UInt8),(∀ x∈xs,x<100)→(xs.foldl (fun acc x=>acc++((if 1<acc.length then [32] else [])++Go.Lib.decDigits x)) acc).length≤acc.length+3*xs.length:=by
  intro xs
  induction xs with
  | nil=>intro acc _; simp
  | cons x xs ih =>
    intro acc h
    rw [List.foldl_cons]
    have h1:=ih (acc++((if 1<acc.length then [32] else [])++Go.Lib.decDigits x)) fun y hy=>h y (List.mem_cons_of_mem _ hy)
    have h2:=Z7y (h x (List.mem_cons_self ..))
    rw [List.length_append,List.length_append] at h1
    have h3:(if 1<acc.length then [(32:UInt8)] else []).length≤1:=by split<;>simp
    rw [List.length_cons]
    omega
 intro xs h
 exact key xs [123] h
abbrev TB:TypeId:=Z2m.t 72
abbrev TU:TypeId:=Z2m.t 5
theorem Z8t (B b:Nat) (l:List UInt8) (c:UInt8) (ci:Int) (hc:ci=c.toNat) (w:World) (h:Lib.IsBuilderF TB TU B b (Lib.byteCells l) w) (hlen:l.length≤100000) (hBw:B≤w.heap.size) :
 Calls Tryz.prog 105 #[.pointer (some ⟨b,0,none⟩),.int .u8 ci] w fun e w'=>e=.returned .nilIface∧Lib.IsBuilderF TB TU B b (Lib.byteCells (l ++ [c])) w'∧Below B w w'∧Lib.OthersKept TU (some b) w w':=by
 subst hc
 refine (Any.Builder_WriteByte_k lays167 bxB B b (Lib.byteCells l) c.toNat w h (by rw [Lib.byteCells_length];omega) hBw).mono ?_
 rintro e w' ⟨h1,h2,h3,h4⟩
 refine⟨h1,.inr ?_,h3,h4⟩
 rw [Lib.byteCells_append]
 exact h2
theorem ZbF (B b:Nat) (l:List UInt8) (s:ByteArray) (w:World) (h:Lib.IsBuilderF TB TU B b (Lib.byteCells l) w) (hlen:l.length+s.size≤100000) (hBw:B≤w.heap.size) :
 Calls Tryz.prog 107 #[.pointer (some ⟨b,0,none⟩),.string s] w fun e w'=>e=.returned (.tuple #[.int .i64 s.size,.nilIface])∧Lib.IsBuilderF TB TU B b (Lib.byteCells (l++s.data.toList)) w'∧Below B w w'∧Lib.OthersKept TU (some b) w w':=by
 refine (Any.Builder_WriteString_k lays166 bxB B b (Lib.byteCells l) s w h (by rw [Lib.byteCells_length];omega) hBw).mono ?_
 rintro e w' ⟨h1,h2,h3,h4⟩
 refine⟨h1,.inr ?_,h3,h4⟩
 rw [Lib.byteCells_append,← Lib.strCells_eq]
 exact h2
theorem Zg2 (B b:Nat) (l:List UInt8) (w:World) (h:Lib.IsBuilderF TB TU B b (Lib.byteCells l) w) :
 Calls Tryz.prog 106 #[.pointer (some ⟨b,0,none⟩)] w fun e w'=>e=.returned (.int .i64 l.length)∧w'=w:=by
 have:=Any.Builder_Len_f lays170 B b (Lib.byteCells l) w h
 rwa [Lib.byteCells_length] at this
theorem Zg3 (B b:Nat) (l:List UInt8) (w:World) (h:Lib.IsBuilderF TB TU B b (Lib.byteCells l) w) (hBw:B≤w.heap.size) :
 Calls Tryz.prog 108 #[.pointer (some ⟨b,0,none⟩)] w fun e w'=>e=.returned (.string ⟨l.toArray⟩)∧Below B w w'∧Lib.OthersKept TU (some b) w w' :=
 (Any.Builder_String_any_k lays169 bxB B b l w h hBw).mono fun _ _ h=>⟨h.1,h.2.2⟩
theorem ZeK (s0:Value) (h1:s0.oneCell'=true) (w:World):Calls Tryz.prog 26 #[.agg #[s0]] w fun e w'=>e=.returned (.func (.func 70) #[] #[.pointer (some ⟨w.heap.size,0,none⟩)])∧∃ tS:TypeId,tS≠TU∧w'=w.alloc (.cells #[s0] tS):=by
 go_enter Tryz.func26,Tryz.ntmps26
 go_wp2
 go_ret
 exact⟨rfl,_,by decide,rfl⟩
theorem ZeL {T e:TypeId} {B b:Nat} {bs:List Value} {W W':World} {row:Option Nat} (h:Lib.IsBuilderF T e B b bs W) (hg:W.grownBy W' row) (hr:∀ r,row=some r→∃ o:Obj,W.heap[r]?=some o∧o.isCells=false):Lib.IsBuilderF T e B b bs W':=by
 have ncells:∀ {k:Nat} {cs:Array Value} {t:TypeId} {fz:Nat×Nat},W.heap[k]?=some (.cells cs t fz)→some k≠row:=by
  intro k cs t fz hk he
  obtain⟨o,ho,hc⟩:=hr k he.symm
  rw [hk] at ho; cases ho; cases hc
 have key:∀ p,Lib.BuilderAtF T e B b p bs W→Lib.BuilderAtF T e B b p bs W':=by
  rintro p ⟨hB,v,hb,hown,hne⟩
  refine⟨hB,v,(hg.block b (Array.getElem?_eq_some_iff.1 hb).1 (ncells hb)).trans hb,hown.kept hg ?_,hne⟩
  rcases hown.2 with⟨rfl,_⟩|⟨g',cap,cur,fz,rfl,_,hgg,_⟩
  · exact .inl rfl
  · exact .inr (ncells hgg)
 exact h.elim (fun h=>.inl (key _ h)) fun h=>.inr (key _ h)
theorem ZeM {f:FuncId} {args:List PV} {v:Value} (hb:HasBody Tryz.prog f) (h:∀ (F:Froz) (w:World) (vs:Array Value),Holds F w→RepL F noLoc vs args→Calls Tryz.prog f vs w fun e w'=>e=.returned v∧Below w.heap.size w w'):Spec Tryz.prog f args (· = .val v):=by
 refine⟨hb,fun F w vs hF hv=>(h F w vs hF hv).mono ?_⟩
 rintro en w' ⟨rfl,hbel⟩
 exact⟨v,.val v,F,rfl,rfl,.val _,hbel,Holds.kept hF hbel,fun _ _ h=>h,fun _ _=>rfl⟩
set_option maxHeartbeats 4000000 in
set_option maxRecDepth 100000 in
theorem Z5c (N:Nat) (hN:N<18446744073709551616):Spec Tryz.prog 55 [setN N] (· = .val (.string (textB N))):=by
 refine ZeM ⟨_,Tryz.func55,by kernel_rfl,by kernel_rfl⟩ fun F w vs hF hv=>?_
 have hv0:Rep F noLoc (vs.getD 0 undef) (.agg [.vec (words (digs N)) false]):=hv.2 0 (Nat.zero_lt_succ _)
 have hsz:vs.size=1:=hv.1
 obtain⟨az,has,h1,h2,h3⟩:=hv0.agg_inv
 have hvs:vs = #[.agg az]:=by
  refine Array.ext hsz fun i i1 i2=>?_
  have hi:i=0:=by omega
  subst hi
  rw [← has]; simp [Array.getD_eq_getD_getElem?,i1]
 subst hvs
 have has1:az = #[az.getD 0 undef]:=by
  refine Array.ext h1 fun i i1 i2=>?_
  have hi:i=0:=by have:az.size=1:=h1; omega
  subst hi
  simp [Array.getD_eq_getD_getElem?,i1]
 have h20:=h2 0 (Nat.zero_lt_succ _)
 have h30:Rep F noLoc (az.getD 0 undef) (.vec (words (digs N)) false):=h3 0 (Nat.zero_lt_succ _)
 rw [has1]
 generalize az.getD 0 undef=s0 at h20 h30
 refine (callsIn_wide (n:=3)).1 (callsIn_of_wp_marks Tryz.func55 rfl trivial ?_ rfl)
 simp only [Tryz.ntmps55,List.size_toArray,List.length_cons,List.length_nil,Nat.reduceAdd,Nat.reduceSub,Array.replicate_succ,Array.replicate_zero,List.push_toArray,List.append_toArray,List.nil_append,List.cons_append]
 gi_wp2
 have hB0:Lib.IsBuilderF TB TU (w.heap.size+1) (w.heap.size+1) (Lib.byteCells []) ((w.alloc (.cells #[s0] 42)).alloc (.cells #[.pointer none,.slice none 0 0] 158)):=.of (by
  have:=Lib.fresh_isBuilder TB TU (w.alloc (.cells #[s0] 42))
  rwa [World.size_alloc] at this)
 refine⟨trivial,(callsIn_wide.2 (Z8t (w.heap.size+1) (w.heap.size+1) [] 123 123 rfl _ hB0 (by decide) (by simp))).mono ?_⟩
 rintro e W1 ⟨rfl,hB1,hb1,hk1⟩
 have hx1:W1.heap[w.heap.size]?=some (.cells #[s0] 42 (0,0)):=by
  rw [hb1.block _ (Nat.lt_succ_self _),Lib.alloc_old _ _ _ (by rw [World.size_alloc]; exact Nat.lt_succ_self _)]
  exact heap_alloc_new w _
 have hlow1:Below w.heap.size w W1:=by
  refine Below.trans ?_ (hb1.mono (Nat.le_succ _))
  exact ((Below.refl _ w).alloc (Nat.le_refl _) _).alloc (by simp) _
 have hsz1:w.heap.size+2≤W1.heap.size:=by have:=hb1.size; simpa using this
 clear hb1 hk1
 have hl1:W1.cell? ⟨w.heap.size,0,none⟩=some s0:=by simp [World.cell?,hx1]
 gi_wp2
 refine⟨trivial,(callsIn_wide.2 (ZeK s0 h20 W1)).mono ?_⟩
 rintro e W2 ⟨rfl,tS,htS,rfl⟩
 gi_wp2
 have hcl:∀ x v,F x=some v→x.block<w.heap.size:=fun x v hx=>by
  have h1:=(hF.1 x v hx).2.2
  unfold World.cell? at h1
  split at h1
  · rename_i ho; exact (Array.getElem?_eq_some_iff.1 ho).1
  · cases h1
 let xa:Addr:=⟨W1.heap.size,0,none⟩
 let F1:Froz:=fun x=>if x=xa then some s0 else F x
 have hF1o:∀ x v,F x=some v→F1 x=some v:=fun x v hx=>by
  have h1:=hcl x v hx
  have:x≠xa:=fun e=>by rw [e] at h1; simp only [xa] at h1; omega
  simp only [F1]; rw [if_neg this]; exact hx
 obtain⟨W2,hW2⟩:∃ W2,W2=W1.alloc (.cells #[s0] tS):=⟨_,rfl⟩
 have hs2:W2.heap.size=W1.heap.size+1:=by rw [hW2,World.size_alloc]
 have hx2:W2.heap[W1.heap.size]?=some (.cells #[s0] tS (0,0)):=by rw [hW2]; exact heap_alloc_new W1 _
 have hlow2:Below w.heap.size w W2:=by rw [hW2]; exact hlow1.alloc (by omega) _
 have hB2:Lib.IsBuilderF TB TU (w.heap.size+1) (w.heap.size+1) (Lib.byteCells (txtS [])) W2:=by rw [hW2]; exact hB1.alloc _
 rw [← hW2]
 have hF2:Holds F1 W2:=⟨fun x v hx=>by
  simp only [F1] at hx
  split at hx
  · rename_i e; subst e; cases hx
    exact⟨rfl,h20,by simp [World.cell?,xa,hx2]⟩
  · have h1 := hF.1 x v hx
    exact⟨h1.1,h1.2.1,(hlow2.cell (hcl x v hx)).trans h1.2.2⟩,fun g j v hg=>hF1o _ _ (hF.2 g j v hg)⟩
 have hrep:RepL F1 noLoc #[.pointer (some xa)] [.cp [.vec (words (digs N)) false]]:=⟨rfl,fun i hi=>by
  have hi:i=0:=by simp at hi; omega
  subst hi
  refine .cp xa [.vec (words (digs N)) false] (fun _=>s0) rfl (fun j hj=>?_) fun j hj=>?_
  · have hj : j = 0 := by simp at hj; omega
    subst hj
    simp [F1,xa]
  · have hj : j = 0 := by simp at hj; omega
    subst hj
    exact h30.mono hF1o fun _ _ h=>h⟩
 have hseq:=(Z25 N hN).2 F1 W2 #[.pointer (some xa)] Fence.wide 2 (Z2n 2) hF2 hrep
 let I:List (MemT N)→World→Prop:=fun pre W=>Lib.IsBuilderF TB TU (w.heap.size+1) (w.heap.size+1) (Lib.byteCells (txtS (pre.map (·.val)))) W∧Below w.heap.size w W∧W.heap[W1.heap.size]?=some (.cells #[s0] tS (0,0))∧W2.heap.size≤W.heap.size
 have stepK:∀ {V V':World} {l1:List UInt8},Lib.IsBuilderF TB TU (w.heap.size+1) (w.heap.size+1) (Lib.byteCells l1) V→V.heap[W1.heap.size]?=some (.cells #[s0] tS (0,0))→Below (w.heap.size+1) V V'→Lib.OthersKept TU (some (w.heap.size+1)) V V' →
  KeepsFrom W2.heap.size V V'∧KpF F1 V V'∧V'.heap[W1.heap.size]?=some (.cells #[s0] tS (0,0))∧Below w.heap.size V V':=by
  intro V V' l1 hbd hbx hbl hok
  have hbc:∃ cs T fz,V.heap[w.heap.size+1]?=some (.cells cs T fz):=by
   rcases hbd with⟨_,v,hb,_⟩|⟨_,v,hb,_⟩<;>exact⟨_,_,_,hb⟩
  obtain⟨cs,T,fz,hbc⟩:=hbc
  have hbx':V'.heap[W1.heap.size]?=some (.cells #[s0] tS (0,0)):=hok _ _ hbx (by simp;omega) fun c fz e=>htS (by cases e; rfl)
  refine⟨⟨hbl.size,fun k o _ ho hnc=>hok k o ho (fun e=>?_) fun c fz e=>?_⟩,⟨fun x v hx hv=>?_,hbl.os,hbl.tape,hbl.output,hbl.size⟩,hbx',hbl.mono (Nat.le_succ _)⟩
  · have e := Option.some.inj e
    subst e
    rw [hbc] at ho; cases ho; cases hnc
  · subst e; cases hnc
  · simp only [F1] at hx
    split at hx
    · rename_i e; subst e; cases hx
      simp [World.cell?,xa,hbx']
    · exact (hbl.cell (Nat.lt_succ_of_lt (hcl x v hx))).trans hv
 refine wpIn_rangeFunc_ownH (gf:=70) (lb := #[.pointer (some xa)]) rfl (by decide) rfl trivial (enters_of Tryz.func70 (by kernel_rfl) rfl) hseq (fun h k=>h.trans k) ?kb (Below.refl _ _) (fun _=>rfl) I (fun _ _ _=>False) ?hI (fun _ _ _ _ _ h _ _=>h) ⟨hB2,hlow2,hx2,Nat.le_refl _⟩ (fun x a' _=>a'={ tmps := #[.agg #[s0],.pointer (some ⟨w.heap.size,0,none⟩),.string ⟨#[]⟩,.pointer (some ⟨w.heap.size+1,0,none⟩),.int .i64 x.val,.nilIface,.agg #[s0],.func (.func 70) #[] #[.pointer (some xa)],.int .i64 x.val,undef,undef,undef,undef,undef,undef,undef,undef],defers := [] }) (fun _ _ _ _ _ _ h _ _=>h) ?assign ?body ?done ?stop
 case kb =>
  intro W l o o' hl ho hc _
  exact KpF.grown (grownBy_putObj' W l o') fun r hr=>by cases hr; exact⟨o,ho,hc⟩
 case hI =>
  rintro pre W W' row ⟨a1,a2,a3,a4⟩ hg hr
  refine⟨ZeL a1 hg fun r e=>(hr r e).2,a2.grown hg (by omega) (fun k e=>by have:=(hr k e).1;omega),?_,Nat.le_trans a4 hg.size⟩
  rw [hg.block _ (Array.getElem?_eq_some_iff.1 a3).1 fun e=>by have:=(hr _ e.symm).1; omega]
  exact a3
 case assign =>
  intro l pre x W K hi hK
  gi_wp2
  exact hK _ _ (KeepsFrom.refl _ _) (KpF.refl _ _) hi rfl
 case body =>
  rintro l pre x a' W hl ⟨r,hr⟩ ⟨a1,a2,a3,a4⟩ rfl hlen
  have hx64:x.val<100:=Nat.lt_of_lt_of_le (Z1t x.2) (by decide)
  have hlt:∀ y∈pre.map (·.val),y<100:=fun y hy=>by
   obtain⟨z,_,rfl⟩:=List.mem_map.1 hy
   exact Nat.lt_of_lt_of_le (Z1t z.2) (by decide)
  have hml:(mem N).length≤64:=Z1d N
  have hln:=ZbE _ hlt
  rw [List.length_map] at hln
  have hdg:=Z7y hx64
  obtain⟨T0,hT0⟩:∃ T0,Hid (txtS (pre.map (·.val))=T0):=⟨_,Any.hidU rfl⟩
  rw [hT0.out] at a1 hln
  have fok:=Z2h (Z2n 0) l 1
  gi_wp2
  refine⟨trivial,(fok.calls _ _ _ _ _ (Zg2 (w.heap.size+1) (w.heap.size+1) _ W a1)).mono ?_⟩
  rintro e V0 ⟨rfl,rfl⟩
  have fin:∀ {V1 V2:World},Lib.IsBuilderF TB TU (w.heap.size+1) (w.heap.size+1) (Lib.byteCells (T0++(if 1<T0.length then [32] else []))) V1→V1.heap[W1.heap.size]?=some (.cells #[s0] tS (0,0))→Below w.heap.size w V1→W2.heap.size≤V1.heap.size→KeepsFrom W2.heap.size V0 V1→KpF F1 V0 V1 →
   Lib.IsBuilderF TB TU (w.heap.size+1) (w.heap.size+1) (Lib.byteCells (T0++(if 1<T0.length then [32] else [])++Go.Lib.decDigits x.val)) V2→Below (w.heap.size+1) V1 V2→Lib.OthersKept TU (some (w.heap.size+1)) V1 V2→KeepsFrom W2.heap.size V0 V2∧KpF F1 V0 V2∧I (pre ++ [x]) V2:=by
   intro V1 V2 p1 p2 p3 p4 p5 p6 p7 p8 p9
   obtain⟨q1,q2,q3,q4⟩:=stepK p1 p2 p8 p9
   refine⟨p5.trans q1,p6.trans q2,?_,p3.trans q4,q3,Nat.le_trans p4 q4.size⟩
   rw [List.map_append,List.map_singleton,ZeJ,← List.append_assoc,hT0.out]
   exact p7
  gi_wp2
  · have hb1 : 1 < T0.length := by omega
    rw [if_pos hb1] at fin
    refine⟨trivial,(fok.calls _ _ _ _ _ (Z8t (w.heap.size+1) (w.heap.size+1) _ 32 32 rfl V0 a1 (by omega) (by omega))).mono ?_⟩
    rintro e V1 ⟨rfl,c1,c2,c3⟩
    obtain⟨d1,d2,d3,d4⟩:=stepK a1 a3 c2 c3
    gi_wp2
    refine⟨trivial,(fok.calls _ _ _ _ _ (Any.strconv_Itoa_small lays171 x.val hx64 V1)).mono ?_⟩
    rintro e V2 ⟨rfl,rfl⟩
    gi_wp2
    refine⟨trivial,(fok.calls _ _ _ _ _ (ZbF (w.heap.size+1) (w.heap.size+1) _ _ V2 c1 (by
     show _+(Go.Lib.decDigits x.val).toArray.size≤_
     rw [List.length_append,List.size_toArray]; simp only [List.length_singleton];omega) (by have:=d4.size;omega))).mono ?_⟩
    rintro e V3 ⟨rfl,e1,e2,e3⟩
    gi_wp2
    exact fin c1 d3 (a2.trans d4) (Nat.le_trans a4 d4.size) d1 d2 e1 e2 e3
  · have hb1 : ¬ 1 < T0.length := by omega
    rw [if_neg hb1,List.append_nil] at fin
    refine⟨trivial,(fok.calls _ _ _ _ _ (Any.strconv_Itoa_small lays171 x.val hx64 V0)).mono ?_⟩
    rintro e V2 ⟨rfl,rfl⟩
    gi_wp2
    refine⟨trivial,(fok.calls _ _ _ _ _ (ZbF (w.heap.size+1) (w.heap.size+1) _ _ V2 a1 (by
     show _+(Go.Lib.decDigits x.val).toArray.size≤_
     rw [List.size_toArray];omega) (by omega))).mono ?_⟩
    rintro e V3 ⟨rfl,e1,e2,e3⟩
    gi_wp2
    exact fin a1 a3 a2 a4 (KeepsFrom.refl _ _) (KpF.refl _ _) e1 e2 e3
 case done =>
  rintro D xs W hD hS ⟨a1,a2,a3,a4⟩ hK
  gi_wp2
  have hlt:∀ y∈mem N,y<100:=fun y hy=>Nat.lt_of_lt_of_le (Z1t hy) (by decide)
  have hml:(mem N).length≤64:=Z1d N
  have hln:=ZbE _ hlt
  rw [hS] at a1
  refine⟨trivial,(callsIn_wide.2 (Z8t (w.heap.size+1) (w.heap.size+1) (txtS (mem N)) 125 125 rfl W a1 (by omega) (by omega))).mono ?_⟩
  rintro e V1 ⟨rfl,c1,c2,c3⟩
  obtain⟨d1,d2,d3,d4⟩:=stepK a1 a3 c2 c3
  have hK1:=d1.same D _ hD hK rfl
  gi_wp2
  refine⟨trivial,(callsIn_wide.2 (Zg3 (w.heap.size+1) (w.heap.size+1) _ V1 c1 (by have:=d4.size;omega))).mono ?_⟩
  rintro e V2 ⟨rfl,f2,f3⟩
  obtain⟨g1,g2,g3,g4⟩:=stepK c1 d3 f2 f3
  have hK2:=g1.same D _ hD hK1 rfl
  gi_wp2
  refine⟨by simp,.inl ⟨_,_,rfl,run_takeDeferred hK2,?_⟩⟩
  refine⟨_,results_tmp rfl _ _ _,rfl,((a2.trans d4).trans g4).grown (grownBy_putObj' V2 D _) (by have:=d4.size; have:=g4.size;omega) fun k e=>by cases e; omega⟩
 case stop =>
  rintro D c pre W _ _ h _
  exact h.elim
end Go.Proofs.YtjpkfigmmmngnaaGreatDoor
namespace Go.Proofs.YtjpkfigmmmngnaaGreatDoor
open Go.RowKit
attribute [local irreducible] aw opsK dK
theorem ZbG {f:FuncId} {args:List PV} {v:Value} (hb:HasBody Tryz.prog f) (h:∀ (F:Froz) (w:World) (vs:Array Value),Holds F w→RepL F noLoc vs args→Calls Tryz.prog f vs w fun e w'=>e=.returned v∧Below w.heap.size w w'):Spec Tryz.prog f args (· = .val v):=by
 refine⟨hb,fun F w vs hF hv=>(h F w vs hF hv).mono ?_⟩
 rintro en w' ⟨rfl,hbel⟩
 exact⟨v,.val v,F,rfl,rfl,.val _,hbel,Holds.kept hF hbel,fun _ _ h=>h,fun _ _=>rfl⟩
def numS (k:Nat):ByteArray:=⟨(Go.Lib.decDigits k).toArray⟩
theorem Z3t (k:Nat) (hk:k<100):Spec Tryz.prog 104 [.val (.int .i64 (k:Int))] (· = .val (.string (numS k))):=by
 refine ZbG ⟨_,Tryz.func104,by kernel_rfl,by kernel_rfl⟩ fun F w vs hF hv=>?_
 obtain rfl:vs = #[.int .i64 (k:Int)]:=by
  refine Array.ext hv.1 fun i h1 h2=>?_
  have hi:i=0:=by simp at h2; omega
  subst hi
  have:=(show Rep F noLoc (vs.getD 0 undef) (.val (.int .i64 (k:Int))) from hv.2 0 (Nat.zero_lt_succ _)).val_inv
  simpa [Array.getD_eq_getD_getElem?,h1] using this
 refine (Any.strconv_Itoa_small lays171 k hk w).mono ?_
 rintro e w' ⟨rfl,rfl⟩
 exact⟨rfl,Below.refl _ _⟩
def strC (x:ByteArray):List PV := [.val (.string x)]
theorem Zu (l:List ByteArray):pureLL (l.map strC):=Z1Q (enc:=strC) (fun _=>⟨trivial,trivial⟩) l
def joinS (l:List ByteArray) (sep:ByteArray):ByteArray:=⟨(Go.Lib.join (l.map (·.data.toList)) sep.data.toList).toArray⟩
theorem Z2O (l:List ByteArray) (fl:Bool) (sep:ByteArray) (hl:l.length≤140737488355328) (hlen:(Go.Lib.join (l.map (·.data.toList)) sep.data.toList).length≤140737488355328):Spec Tryz.prog 100 [.vec (l.map strC) fl,.val (.string sep)] (· = .val (.string (joinS l sep))):=by
 refine ZbG ⟨_,Tryz.func100,by kernel_rfl,by kernel_rfl⟩ fun F w vs hF hv=>?_
 have hv1:Rep F noLoc (vs.getD 0 undef) (.vec (l.map strC) fl):=hv.2 0 (show 0<2 by decide)
 have hv2:vs.getD 1 undef=.string sep:=(show Rep F noLoc (vs.getD 1 undef) (.val (.string sep)) from hv.2 1 (show 1<2 by decide)).val_inv
 have hvs:vs = #[vs.getD 0 undef,vs.getD 1 undef]:=by
  refine Array.ext hv.1 fun i h1 h2=>?_
  have hs:vs.size=2:=hv.1
  have hi:i=0 ∨ i=1:=by omega
  rcases hi with rfl|rfl<;>simp [Array.getD_eq_getD_getElem?,h1]
 rw [hvs,hv2]
 rcases hv1.vec_inv with⟨h0,hq⟩|⟨x,cap,esz,cs,hq,hs,hcap,hfull,hmax,he,hF1,hR⟩
 · have h0 : l = [] := List.map_eq_nil_iff.1 h0
   subst h0
   rw [hq]
   refine (Any.strings_Join_none lays156 builderExtra156 none 0 sep w).mono ?_
   rintro e w' ⟨rfl,rfl⟩
   exact⟨rfl,Below.refl _ _⟩
 · rw [hq, List.length_map]
   by_cases hne:l = []
   · subst hne
     refine (Any.strings_Join_none lays156 builderExtra156 (some x) cap sep w).mono ?_
     rintro e w' ⟨rfl,rfl⟩
     exact⟨rfl,Below.refl _ _⟩
   · have hsp := hs (by simpa using hne)
     obtain⟨bk,o,sp⟩:=x
     dsimp only at hsp
     subst hsp
     rw [List.length_map] at hcap
     have hpos:0<l.length:=List.length_pos_iff.2 hne
     have hez:esz=1:=by
      have:=he 0 (by simpa using hpos)
      rw [← this]
      simp [List.getD_eq_getElem?_getD,hpos,strC]
     subst hez
     have hcell:∀ (j:Nat) y,l[j]?=some y→F ⟨bk,o+j,none⟩=some (.string y):=fun j y hj=>by
      have hjl:=(List.getElem?_eq_some_iff.1 hj).1
      have h1:=hF1 j 0 (by simpa using hjl) (by decide)
      have h2:=hR j 0 (by simpa using hjl) (by decide)
      have h3:((l.map strC).getD j []).getD 0 pvu=.val (.string y):=by simp [List.getD_eq_getElem?_getD,hj,strC]
      rw [h3] at h2
      have h4:=h2.val_inv
      rw [h4] at h1
      simpa using h1
     refine Any.strings_Join lays156 builderExtra156 bk o cap l sep w (fun j y hj=>(hF.1 _ _ (hcell j y hj)).2.2) ?_ hl hcap hlen
     obtain⟨y,hy⟩:∃ y,l[0]?=some y:=⟨_,List.getElem?_eq_getElem hpos⟩
     have:=(hF.1 _ _ (hcell 0 y hy)).2.2
     unfold World.cell? at this
     split at this
     · rename_i ho; exact (Array.getElem?_eq_some_iff.1 ho).1
     · cases this
def litS (c:Cu) (r:Nat):List ByteArray:=(if c.1.testBit r then [numS r] else [])++if c.2.testBit r then [⟨#[33]⟩++numS r] else []
def litsS (c:Cu) (rs:List Nat):List ByteArray:=rs.flatMap (litS c)
def textS (c:Cu):ByteArray:=if litsS c (mem (c.1 ||| c.2)) = [] then ⟨#[102,117,108,108]⟩ else joinS (litsS c (mem (c.1 ||| c.2))) ⟨#[32]⟩
theorem ZcW (c:Cu) (rs:List Nat) (r:Nat):litsS c (rs ++ [r])=litsS c rs++litS c r:=by unfold litsS; rw [List.flatMap_append]; simp
theorem Zg4 (c:Cu) (r:Nat):(litS c r).length≤2:=by unfold litS; rw [List.length_append]; split<;>split<;>simp
theorem Z6K (c:Cu):∀ rs:List Nat,(litsS c rs).length≤2*rs.length
 | []=>by simp [litsS]
 | r :: rs => by
   have h1:=Zg4 c r
   have h2:=Z6K c rs
   unfold litsS at h2 ⊢
   rw [List.flatMap_cons,List.length_append,List.length_cons]
   omega
theorem Z6L {k:Nat} (hk:k<100):(numS k).data.toList.length≤2:=by
 show (Go.Lib.decDigits k).toArray.toList.length≤2
 by_cases h:k<10
 · rw [Go.Lib.decDigits_one h]; simp
 · rw [Go.Lib.decDigits_two h hk]; simp
theorem ZeN (x:ByteArray):((⟨#[33]⟩:ByteArray)++x).data.toList=33 :: x.data.toList:=by rw [ByteArray.data_append]; simp
theorem ZcX {c:Cu} {rs:List Nat} (h:∀ r∈rs,r<100):∀ x∈litsS c rs,x.data.toList.length≤3:=fun x hx=>by
 obtain⟨r,hr,hx⟩:=List.mem_flatMap.1 hx
 have hn:=Z6L (h r hr)
 unfold litS at hx
 rcases List.mem_append.1 hx with hx|hx
 · split at hx
   · rw [List.mem_singleton] at hx; subst hx; omega
   · cases hx
 · split at hx
   · rw [List.mem_singleton] at hx; subst hx
     rw [ZeN,List.length_cons]; omega
   · cases hx
theorem ZaG {l:List (List UInt8)} {k:Nat} (h:∀ x∈l,x.length≤k):Go.Lib.lens l≤k*l.length:=by
 induction l with
 | nil=>simp [Go.Lib.lens]
 | cons x l ih =>
   have h1:=h x (List.mem_cons_self ..)
   have h2:=ih fun y hy=>h y (List.mem_cons_of_mem _ hy)
   have:Go.Lib.lens (x :: l)=x.length+Go.Lib.lens l:=by simp [Go.Lib.lens]
   rw [this,List.length_cons,Nat.mul_succ]; omega
theorem Zg5 {l:List ByteArray} (h:∀ x∈l,x.data.toList.length≤3) (hl:l.length≤1000) (sep:ByteArray) (hs:sep.data.toList.length≤10):(Go.Lib.join (l.map (·.data.toList)) sep.data.toList).length≤140737488355328:=by
 cases l with
 | nil=>simp [Go.Lib.join_nil]
 | cons x l =>
   rw [List.map_cons,Go.Lib.join_length]
   have:=ZaG (k:=3) (l:=(x :: l).map (·.data.toList)) fun y hy=>by
    obtain⟨z,hz,rfl⟩:=List.mem_map.1 hy
    exact h z hz
   rw [List.map_cons] at this
   simp only [List.length_cons,List.length_map] at this hl ⊢
   have h2:sep.data.toList.length*l.length≤10*l.length:=Nat.mul_le_mul_right _ hs
   omega
set_option maxRecDepth 100000 in
set_option maxHeartbeats 4000000 in
theorem ZcY (c:Cu) (hc:Ok64 c):Spec Tryz.prog 54 [cuP c] (· = .val (.string (textS c))):=by
 have hor:=Z38 hc.1 hc.2
 refine Z3 ok54 (Nat.le_of_ble_eq_true rfl) fun C hC=>?_
 refine Zm ?_
 refine Za ?_
 refine Z6 rfl rfl rfl ?_
 (repeat'(first|refine Z2 5 ?_|refine Z1 5 ?_|refine st ?_|(apply B<;>intro hb<;>try cases hb)))<;>try refine At.mk ?_
 refine Ze (Z1s (id:=0) (i0:=0) (j0:=0) rfl (by decide) (by decide) rfl 1 (by decide) (by decide)) ?_
 (repeat'(first|refine Z2 9 ?_|refine Z1 9 ?_|refine st ?_|(apply B<;>intro hb<;>try cases hb)))<;>try refine At.mk ?_
 refine Z4 (Z2r c.1 c.2 hc.1 hc.2) rfl rfl rfl ⟨Z0 _,Z0 _,trivial⟩ rfl ?_
 have hM:textS c=if litsS c (mem (c.1 ||| c.2)) = [] then ⟨#[102,117,108,108]⟩ else joinS (litsS c (mem (c.1 ||| c.2))) ⟨#[32]⟩:=rfl
 rw [hM]
 generalize c.1 ||| c.2=M at hor ⊢
 refine Z4 (Z1u M) rfl rfl rfl ⟨Z0 _,trivial⟩ rfl ?_
 (refine go ?_;repeat' (apply B<;>intro hb<;>try cases hb))
 refine Z2q (X:=List Nat) hC (caps := [.cp [.vec (words (digs M)) false]]) [(1,.cp (cuC c)),(3,.ptr 0 0 0),(10,.fn 70 [.cp [.vec (words (digs M)) false]])]
  (fun z => [(0,⟨1,[[.own 1]]⟩),(1,⟨1,(litsS c z).map strC⟩)]) rfl ⟨⟨Zb _,trivial⟩,trivial⟩ (Z25 M hor) (fun _=>rfl)
  (fun ex pre z=>ex=.normal∧z=pre.map (·.val)) 2 (by decide) [] ⟨rfl,rfl⟩
  (Z4l (EnvQ.mem (ρ := fun i => i) (m := 2) (L := [(1, .cp (cuC c)), (3, .ptr 0 0 0), (10, .fn 70 [.cp [.vec (words (digs M)) false]])]) ⟨⟨_, rfl, .pure _ (Z2t c)⟩, ⟨_, rfl, .ptr (ρ := fun i => i) 0 0 0 (by decide)⟩, ⟨_, rfl, .pure _ ⟨⟨Zb _, trivial⟩, trivial⟩⟩, trivial⟩)
    (HeapQ.mem (ρ:=fun i=>i) (m:=2) (L := [(0,⟨1,[[.own 1]]⟩),(1,⟨1,(litsS c []).map strC⟩)]) ⟨⟨by decide,_,rfl,RenB.single ⟨.own (ρ:=fun i=>i) 1 (by decide),trivial⟩ rfl⟩,⟨by decide,_,rfl,.same _ trivial⟩,trivial⟩) hC (by decide))
  (fun z q hq=>by simp at hq; rcases hq with rfl|rfl<;>exact Nat.zero_lt_succ _) _ (fun x=>rfl) ?_ ?_ ?_
 · rintro C2 hC2 pre x z ⟨-, rfl⟩ hlen
   have hx:=Z1t x.2
   have hml:=Z1d M
   have hsn:=ZcW c (pre.map (·.val)) x.val
   have hll:=Z6K c (pre.map (·.val))
   rw [List.length_map] at hll
   generalize litsS c (pre.map (·.val))=acc at hsn hll ⊢
   have hn:=Z6L (show x.val<100 by omega)
   have hcat:∀ (e:Env) (h:Heap) (n:Nat) (q:Operand),ev e q=some (.val (.string (numS x.val)))→dEval (.bin .add .num (.const (.string ⟨#[33]⟩)) q) e h n=some (.val (.string (⟨#[33]⟩++numS x.val)),h):=fun e h n q hq=>by
    have hsz:(⟨#[33]⟩:ByteArray).size+(numS x.val).size≤9223372036854775807:=by
     have:(numS x.val).size=(numS x.val).data.toList.length:=by rw [Array.length_toList]; rfl
     rw [this]
     show 1+_≤_
     omega
    have h1:ev e (.const (.string ⟨#[33]⟩))=some (.val (.string ⟨#[33]⟩)):=rfl
    simp only [dEval,h1,hq,pbin,sbin,if_pos hsz,Option.map]
   unfold litS at hsn
   (repeat'(first|refine Z2 15 ?_|refine Z1 15 ?_|refine st ?_|(apply B<;>intro hb<;>try cases hb)))<;>try refine At.mk ?_
   refine Z4 (Z6E c.1 hc.1 x.val) rfl rfl rfl ⟨Z0 _,trivial,trivial⟩ rfl ?_
   cases h1:c.1.testBit x.val
   · rw [h1, if_neg (by decide), List.nil_append] at hsn
     (repeat'(first|refine Z2 24 ?_|refine Z1 24 ?_|refine st ?_|(apply B<;>intro hb<;>try cases hb)))<;>try refine At.mk ?_
     refine Z4 (Z6E c.2 hc.2 x.val) rfl rfl rfl ⟨Z0 _,trivial,trivial⟩ rfl ?_
     cases h2:c.2.testBit x.val
     · rw [h2, if_neg (by decide), List.append_nil] at hsn
       (refine go ?_;repeat' (apply B<;>intro hb<;>try cases hb))
       exact⟨.inl rfl,pre.map (·.val) ++ [x.val],fun i=>i,⟨rfl,by rw [List.map_append]; rfl⟩,fun i hi=>rfl,ZL,
        ⟨⟨_,rfl,.pure _ (Z2t c)⟩,⟨_,rfl,.ptr (ρ:=fun i=>i) 0 0 0 (by decide)⟩,⟨_,rfl,.pure _ ⟨⟨Zb _,trivial⟩,trivial⟩⟩,trivial⟩,
        ⟨⟨by decide,_,rfl,RenB.single ⟨.own (ρ:=fun i=>i) 1 (by decide),trivial⟩ rfl⟩,⟨by decide,_,rfl,by rw [hsn]; exact .same _ (Zu _)⟩,trivial⟩⟩
     · rw [h2, if_pos rfl] at hsn
       (repeat'(first|refine Z2 27 ?_|refine Z1 27 ?_|refine st ?_|(apply B<;>intro hb<;>try cases hb)))<;>try refine At.mk ?_
       refine Zt (Z3t x.val (by omega)) rfl rfl rfl ⟨trivial,trivial⟩ ?_
       refine Zq (hcat _ _ _ _ rfl) rfl rfl ?_
       (repeat'(first|refine Z2 30 ?_|refine Z1 30 ?_|refine st ?_|(apply B<;>intro hb<;>try cases hb)))<;>try refine At.mk ?_
       refine Zq (Zy (k:=1) (m := [strC (⟨#[33]⟩++numS x.val)]) (fl:=true) rfl rfl rfl (fun q hq=>by rw [List.mem_singleton] at hq; subst hq; rfl) rfl (by
        show ((acc.map strC).length+1)*16≤_
        rw [List.length_map];omega)) rfl rfl ?_
       (refine go ?_;repeat' (apply B<;>intro hb<;>try cases hb))
       refine⟨.inl rfl,pre.map (·.val) ++ [x.val],mv 1 7,⟨rfl,by rw [List.map_append]; rfl⟩,Z3S (by decide),ZK rfl,
        ⟨⟨_,rfl,.pure _ (Z2t c)⟩,⟨_,rfl,.ptr (ρ:=mv 1 7) 0 0 0 (by decide)⟩,⟨_,rfl,.pure _ ⟨⟨Zb _,trivial⟩,trivial⟩⟩,trivial⟩,
        ⟨⟨by decide,_,rfl,RenB.single ⟨.own (ρ:=mv 1 7) 1 (by decide),trivial⟩ rfl⟩,⟨by decide,_,rfl,?_⟩,trivial⟩⟩
       show RenB _ _ ⟨1,acc.map strC ++ [strC (⟨#[33]⟩++numS x.val)]⟩ ⟨1,(litsS c (pre.map (·.val) ++ [x.val])).map strC⟩
       have hp:=Zu (acc ++ [⟨#[33]⟩++numS x.val])
       rw [hsn,List.map_append]
       rw [List.map_append] at hp
       exact .same _ hp
   · rw [h1, if_pos rfl] at hsn
     (repeat'(first|refine Z2 18 ?_|refine Z1 18 ?_|refine st ?_|(apply B<;>intro hb<;>try cases hb)))<;>try refine At.mk ?_
     refine Zt (Z3t x.val (by omega)) rfl rfl rfl ⟨trivial,trivial⟩ ?_
     (repeat'(first|refine Z2 20 ?_|refine Z1 20 ?_|refine st ?_|(apply B<;>intro hb<;>try cases hb)))<;>try refine At.mk ?_
     refine Zq (Zy (k:=1) (m := [strC (numS x.val)]) (fl:=true) rfl rfl rfl (fun q hq=>by rw [List.mem_singleton] at hq; subst hq; rfl) rfl (by
      show ((acc.map strC).length+1)*16≤_
      rw [List.length_map];omega)) rfl rfl ?_
     (repeat'(first|refine Z2 24 ?_|refine Z1 24 ?_|refine st ?_|(apply B<;>intro hb<;>try cases hb)))<;>try refine At.mk ?_
     refine Z4 (Z6E c.2 hc.2 x.val) rfl rfl rfl ⟨Z0 _,trivial,trivial⟩ rfl ?_
     cases h2:c.2.testBit x.val
     · rw [h2, if_neg (by decide), List.append_nil] at hsn
       (refine go ?_;repeat' (apply B<;>intro hb<;>try cases hb))
       refine⟨.inl rfl,pre.map (·.val) ++ [x.val],mv 1 6,⟨rfl,by rw [List.map_append]; rfl⟩,Z3S (by decide),ZK rfl,
        ⟨⟨_,rfl,.pure _ (Z2t c)⟩,⟨_,rfl,.ptr (ρ:=mv 1 6) 0 0 0 (by decide)⟩,⟨_,rfl,.pure _ ⟨⟨Zb _,trivial⟩,trivial⟩⟩,trivial⟩,
        ⟨⟨by decide,_,rfl,RenB.single ⟨.own (ρ:=mv 1 6) 1 (by decide),trivial⟩ rfl⟩,⟨by decide,_,rfl,?_⟩,trivial⟩⟩
       show RenB _ _ ⟨1,acc.map strC ++ [strC (numS x.val)]⟩ ⟨1,(litsS c (pre.map (·.val) ++ [x.val])).map strC⟩
       have hp:=Zu (acc ++ [numS x.val])
       rw [hsn,List.map_append]
       rw [List.map_append] at hp
       exact .same _ hp
     · rw [h2, if_pos rfl] at hsn
       (repeat'(first|refine Z2 27 ?_|refine Z1 27 ?_|refine st ?_|(apply B<;>intro hb<;>try cases hb)))<;>try refine At.mk ?_
       refine Zt (Z3t x.val (by omega)) rfl rfl rfl ⟨trivial,trivial⟩ ?_
       refine Zq (hcat _ _ _ _ rfl) rfl rfl ?_
       (repeat'(first|refine Z2 30 ?_|refine Z1 30 ?_|refine st ?_|(apply B<;>intro hb<;>try cases hb)))<;>try refine At.mk ?_
       refine Zq (Zy (k:=6) (m := [strC (⟨#[33]⟩++numS x.val)]) (fl:=true) rfl rfl rfl (fun q hq=>by rw [List.mem_singleton] at hq; subst hq; rfl) rfl (by
        show ((acc.map strC ++ [strC (numS x.val)]).length+1)*16≤_
        rw [List.length_append,List.length_map,List.length_singleton];omega)) rfl rfl ?_
       (refine go ?_;repeat' (apply B<;>intro hb<;>try cases hb))
       refine⟨.inl rfl,pre.map (·.val) ++ [x.val],mv 1 13,⟨rfl,by rw [List.map_append]; rfl⟩,Z3S (by decide),ZK rfl,
        ⟨⟨_,rfl,.pure _ (Z2t c)⟩,⟨_,rfl,.ptr (ρ:=mv 1 13) 0 0 0 (by decide)⟩,⟨_,rfl,.pure _ ⟨⟨Zb _,trivial⟩,trivial⟩⟩,trivial⟩,
        ⟨⟨by decide,_,rfl,RenB.single ⟨.own (ρ:=mv 1 13) 1 (by decide),trivial⟩ rfl⟩,⟨by decide,_,rfl,?_⟩,trivial⟩⟩
       show RenB _ _ ⟨1,acc.map strC ++ [strC (numS x.val)] ++ [strC (⟨#[33]⟩++numS x.val)]⟩ ⟨1,(litsS c (pre.map (·.val) ++ [x.val])).map strC⟩
       have hp:=Zu (acc++([numS x.val] ++ [⟨#[33]⟩++numS x.val]))
       rw [hsn,List.map_append,List.map_append,← List.append_assoc]
       rw [List.map_append,List.map_append,← List.append_assoc] at hp
       exact .same _ hp
 · rintro xs z hxs ⟨-, rfl⟩
   rw [hxs]
   have hsz:=ZcX (c:=c) (rs:=mem M) fun r hr=>by have:=Z1t hr; omega
   have hll:=Z6K c (mem M)
   have hml:=Z1d M
   generalize litsS c (mem M)=l at hsz hll ⊢
   (repeat'(first|refine Z2 33 ?_|refine Z1 33 ?_|refine st ?_|(apply B<;>intro hb<;>try cases hb)))<;>try refine At.mk ?_
   cases l with
   | nil =>
     refine Z7 (Zw (v:=true) rfl rfl) rfl rfl ?_
     (refine go ?_;repeat' (apply B<;>intro hb<;>try cases hb))
     exact Z5 rfl trivial rfl
   | cons y l =>
     refine Z7 (Zw (v:=false) rfl (by simp;omega)) rfl rfl ?_
     repeat' (first|refine Z2 34 ?_|(first|refine st ?_|(apply B<;>intro hb<;>try cases hb)))
     refine At.mk ?_
     refine Ze (Z1D (ob:=0) (id:=1) (i0:=0) (j0:=0) rfl rfl (by decide) (Zu _) (Nat.le_of_ble_eq_true rfl) (Nat.le_of_ble_eq_true rfl) rfl) ?_
     (repeat'(first|refine Z2 35 ?_|refine Z1 35 ?_|refine st ?_|(apply B<;>intro hb<;>try cases hb)))<;>try refine At.mk ?_
     refine Z4 (Z2O (y :: l) false ⟨#[32]⟩ (by omega) (Zg5 hsz (by omega) _ (by decide))) rfl rfl rfl ⟨Zu _,trivial,trivial⟩ rfl ?_
     (refine go ?_;repeat' (apply B<;>intro hb<;>try cases hb))
     exact Z5 rfl trivial (by rw [if_neg (by simp)])
 · rintro ex pre z - ⟨rfl,_⟩ (h|⟨id,h⟩)<;>cases h
end Go.Proofs.YtjpkfigmmmngnaaGreatDoor
namespace Go.Proofs.YtjpkfigmmmngnaaGreatDoor
open Go.RowKit
section
variable {P:Program} {C:Ctx} {Fr:Nat→Prop} {e:Env} {h:Heap} {F:Froz} {φ:Locs} {a:Act} {w:World}
theorem MSpec.frame {f:FuncId} {b:Bx} {rest:List PV} {mk:Nat→PV} {R:Bx→Prop} (hs:MSpec P f b rest mk R) (hmk:Mk mk) (hpb:pureLL b.elems) (hpr:pureL rest) {k n:Nat} (hb:h k=some b) :
 ISpec P f n (.own k :: rest) h fun n' r h'=>∃ b',n'=n+1∧r=mk n∧h'=(h.del k).upd n b'∧pureLL b'.elems∧R b':=by
 refine⟨hs.1,fun C e F φ a w vs s hv=>(hs.run hmk hpb hpr (Nat.le_refl n) hb s hv).mono ?_⟩
 rintro en w' ⟨v,b',F',φ',rfl,⟨h1,h2⟩,hr,s'⟩
 exact⟨v,mk n,n+1,(h.del k).upd n b',F',φ',rfl,⟨b',rfl,rfl,rfl,h1,h2⟩,hr,{ s' with free:=fun i hi=>s'.free i ⟨by omega,by omega⟩ }⟩
theorem ZaH {f nt:Nat} {ac:ACode} {rs:List ARes} (hf:FnOk P f nt ac rs) {b:Bx} {rest:List PV} {mk:Nat→PV} {R:Bx→Prop} (hn:rest.length+1≤nt) (hk:∀ C:Ctx,C.dom 1→aw P C ac (retI rs fun n' r h'=>∃ id b',r=mk id∧h' id=some b'∧pureLL b'.elems∧R b') 1 (argEnv (.own 0 :: rest)) (heapL [(0,b)])):MSpec P f b rest mk R :=
 Z1J hf hn hk
theorem ZgZ {f:Operand} {args:List Operand} {g:FuncId} {caps as0 rest:List PV} {b:Bx} {k:Nat} {mk:Nat→PV} {R:Bx→Prop} {d:Option Nat} {os:List AOper} {n:Nat} {K:Nat→Env→Heap→Prop} (hs:MSpec P g b rest mk R) (hmk:Mk mk) (hf:ev e f=some (.fn g caps)) (ha:evs e args=some as0) (hr:as0++caps=.own k :: rest) (hb:h k=some b) (hpb:pureLL b.elems) (hpr:pureL rest)
 (hk:∀ b',pureLL b'.elems→R b'→opsK P os (n+1) (updO e d (mk n)) ((h.del k).upd n b') K):opsK P (⟨d,.call f args,none⟩ :: os) n e h K:=by
 refine ZX hf ha (R:=fun n' r h'=>∃ b',n'=n+1∧r=mk n∧h'=(h.del k).upd n b'∧pureLL b'.elems∧R b') (by rw [hr]; exact hs.frame hmk hpb hpr hb) ?_
 rintro n' r h' ⟨b',rfl,rfl,rfl,h1,h2⟩
 exact hk b' h1 h2
end
end Go.Proofs.YtjpkfigmmmngnaaGreatDoor
namespace Go.Proofs.YtjpkfigmmmngnaaGreatDoor
open Go.RowKit
attribute [local irreducible] aw opsK dK
structure NamesW (tp:PV) (nm:Nat→ByteArray):Prop where
 one:tp.flat=true
 cell:tp.cells = [tp]
 pure:tp.pure
 len:∀ r,r<64→(nm r).data.toList.length≤100
 name:∀ r:Nat,r<64→∃ s b,Spec Tryz.prog 139 [tp,.val (.int .i64 (r:Int))] (· = .tup [.val (.string s),.val (.bool b)])∧nm r=if b then s else numS r
def partB (word:ByteArray) (N:Nat) (nm:Nat→ByteArray):ByteArray:=word++joinS ((mem N).map nm) ⟨#[32,97,110,100,32]⟩
theorem Z6M {l:List ByteArray} (h:∀ x∈l,x.data.toList.length≤100) (hl:l.length≤64) (sep:ByteArray) (hs:sep.data.toList.length≤10):(Go.Lib.join (l.map (·.data.toList)) sep.data.toList).length≤100000:=by
 cases l with
 | nil=>simp [Go.Lib.join_nil]
 | cons x l =>
   rw [List.map_cons,Go.Lib.join_length]
   have:=ZaG (k:=100) (l:=(x :: l).map (·.data.toList)) fun y hy=>by
    obtain⟨z,hz,rfl⟩:=List.mem_map.1 hy
    exact h z hz
   rw [List.map_cons] at this
   simp only [List.length_cons,List.length_map] at this hl ⊢
   have h2:sep.data.toList.length*l.length≤10*l.length:=Nat.mul_le_mul_right _ hs
   omega
theorem bsize (x:ByteArray):x.size=x.data.toList.length:=by rw [Array.length_toList]; rfl
theorem ZbH {e:Env} {h:Heap} {n:Nat} {p q:Operand} {x y:ByteArray} (hp:ev e p=some (.val (.string x))) (hq:ev e q=some (.val (.string y))) (hx:x.size≤1000000) (hy:y.size≤1000000):dEval (.bin .add .num p q) e h n=some (.val (.string (x++y)),h):=by
 have hsz:x.size+y.size≤9223372036854775807:=by omega
 simp only [dEval,hp,hq,pbin,sbin,if_pos hsz,Option.map]
set_option maxHeartbeats 8000000 in
theorem Z7z {tp:PV} {nm:Nat→ByteArray} (hN:NamesW tp nm) (word:ByteArray) (hw:word.size≤100) (N:Nat) (h64:N<18446744073709551616) (hne:N≠0):NSpec Tryz.prog 99 [.vec [] true,.val (.string word),setN N,tp] .own ⟨1,[partB word N nm].map strC⟩:=by
 have htp:pureL [tp]:=⟨hN.pure,trivial⟩
 have hfl:=hN.one
 have hce:=hN.cell
 refine Z2Z ok99 (Nat.le_of_ble_eq_true rfl) fun C hC=>?_
 refine Zm ?_
 refine Za ?_
 refine Z6 rfl rfl rfl ?_
 refine Z6 (show fEval (.box (.tmp 3)) _ _ _=some (.cp [tp],_) by (show (match some tp with|some p=>if p.flat&&decide (0<p.cells.length) then some (PV.cp p.cells,_) else none|none=>none)=_; simp only [hfl,hce]; rfl)) rfl rfl ?_
 (refine go ?_;repeat' (apply B<;>intro hb<;>try cases hb))
 refine Z4 (Z2b N h64) rfl rfl rfl ⟨Z0 N,trivial⟩ rfl ?_
 rw [decide_eq_false hne]
 (repeat'(first|refine Z2 17 ?_|refine Z1 17 ?_|refine st ?_|(apply B<;>intro hb<;>try cases hb)))<;>try refine At.mk ?_
 refine Ze (Z1s (id:=0) (i0:=0) (j0:=0) rfl (by decide) (by decide) rfl 1 (by decide) (by decide)) ?_
 refine Z4 (Z1u N) rfl rfl rfl ⟨Z0 _,trivial⟩ rfl ?_
 (refine go ?_;repeat' (apply B<;>intro hb<;>try cases hb))
 refine Z2q (X:=List Nat) hC (caps := [.cp [.vec (words (digs N)) false]]) [(0,.vec [] true),(1,.val (.string word)),(7,.cp [tp]),(9,.ptr 0 0 0),(17,.fn 70 [.cp [.vec (words (digs N)) false]])]
  (fun z => [(0,⟨1,[[.own 1]]⟩),(1,⟨1,((z.map nm).map strC)⟩)]) rfl ⟨⟨Zb _,trivial⟩,trivial⟩ (Z25 N h64) (fun _=>rfl)
  (fun ex pre z=>ex=.normal∧z=pre.map (·.val)) 2 (by decide) [] ⟨rfl,rfl⟩
  (Z4l (EnvQ.mem (ρ := fun i => i) (m := 2) (L := [(0, .vec [] true), (1, .val (.string word)), (7, .cp [tp]), (9, .ptr 0 0 0), (17, .fn 70 [.cp [.vec (words (digs N)) false]])]) ⟨⟨_, rfl, .pure _ trivial⟩, ⟨_, rfl, .pure _ trivial⟩, ⟨_, rfl, .pure _ htp⟩, ⟨_, rfl, .ptr (ρ := fun i => i) 0 0 0 (by decide)⟩, ⟨_, rfl, .pure _ ⟨⟨Zb _, trivial⟩, trivial⟩⟩, trivial⟩)
    (HeapQ.mem (ρ:=fun i=>i) (m:=2) (L := [(0,⟨1,[[.own 1]]⟩),(1,⟨1,((([]:List Nat).map nm).map strC)⟩)]) ⟨⟨by decide,_,rfl,RenB.single ⟨.own (ρ:=fun i=>i) 1 (by decide),trivial⟩ rfl⟩,⟨by decide,_,rfl,.same _ trivial⟩,trivial⟩) hC (by decide))
  (fun z q hq=>by simp at hq; rcases hq with rfl|rfl<;>exact Nat.zero_lt_succ _) _ (fun x=>rfl) ?_ ?_ ?_
 · rintro C2 hC2 pre x z ⟨-, rfl⟩ hlen
   have hx:=Z1t x.2
   have hml:=Z1d N
   obtain⟨s,b,hs1,hs2⟩:=hN.name x.val hx
   have hsn:(pre.map (·.val) ++ [x.val]).map nm=(pre.map (·.val)).map nm ++ [nm x.val]:=by rw [List.map_append]; rfl
   have hll:((pre.map (·.val)).map nm).length=pre.length:=by rw [List.length_map,List.length_map]
   generalize (pre.map (·.val)).map nm=acc at hsn hll ⊢
   rw [hs2] at hsn
   refine Z5B ?_
   (repeat'(first|refine Z2 20 ?_|refine Z1 20 ?_|refine st ?_|(apply B<;>intro hb<;>try cases hb)))<;>try refine At.mk ?_
   refine Z7 rfl rfl rfl ?_
   (refine go ?_;repeat' (apply B<;>intro hb<;>try cases hb))
   refine Z4 hs1 rfl rfl rfl ⟨hN.pure,trivial,trivial⟩ rfl ?_
   cases b
   · rw [if_neg (by decide)] at hsn
     (refine go ?_;repeat' (apply B<;>intro hb<;>try cases hb))
     refine Z4 (Z3t x.val (by omega)) rfl rfl rfl ⟨trivial,trivial⟩ rfl ?_
     (repeat'(first|refine Z2 32 ?_|refine Z1 32 ?_|refine st ?_|(apply B<;>intro hb<;>try cases hb)))<;>try refine At.mk ?_
     refine Zz (Zy (k:=1) (m := [strC (numS x.val)]) (fl:=true) (b:=⟨1,acc.map strC⟩) rfl rfl rfl (fun q hq=>by rw [List.mem_singleton] at hq; subst hq; rfl) rfl (by
      show ((acc.map strC).length+1)*16≤_
      rw [List.length_map];omega)) rfl rfl ?_
     (refine go ?_;repeat' (apply B<;>intro hb<;>try cases hb))
     exact⟨.inl rfl,pre.map (·.val) ++ [x.val],mv 1 2,⟨rfl,by rw [List.map_append]; rfl⟩,Z3S (by decide),ZK rfl,⟨⟨_,rfl,.pure _ trivial⟩,⟨_,rfl,.pure _ trivial⟩,⟨_,rfl,.pure _ htp⟩,⟨_,rfl,.ptr (ρ:=mv 1 2) 0 0 0 (by decide)⟩,⟨_,rfl,.pure _ ⟨⟨Zb _,trivial⟩,trivial⟩⟩,trivial⟩,⟨⟨by decide,_,rfl,RenB.single ⟨.own (ρ:=mv 1 2) 1 (by decide),trivial⟩ rfl⟩,⟨by decide,_,rfl,by rw [hsn,List.map_append]; exact .same ⟨1,acc.map strC ++ [numS x.val].map strC⟩ (by rw [← List.map_append]; exact Zu _)⟩,trivial⟩⟩
   · rw [if_pos rfl] at hsn
     (repeat'(first|refine Z2 32 ?_|refine Z1 32 ?_|refine st ?_|(apply B<;>intro hb<;>try cases hb)))<;>try refine At.mk ?_
     refine Zz (Zy (k:=1) (m := [strC s]) (fl:=true) (b:=⟨1,acc.map strC⟩) rfl rfl rfl (fun q hq=>by rw [List.mem_singleton] at hq; subst hq; rfl) rfl (by
      show ((acc.map strC).length+1)*16≤_
      rw [List.length_map];omega)) rfl rfl ?_
     (refine go ?_;repeat' (apply B<;>intro hb<;>try cases hb))
     exact⟨.inl rfl,pre.map (·.val) ++ [x.val],mv 1 2,⟨rfl,by rw [List.map_append]; rfl⟩,Z3S (by decide),ZK rfl,⟨⟨_,rfl,.pure _ trivial⟩,⟨_,rfl,.pure _ trivial⟩,⟨_,rfl,.pure _ htp⟩,⟨_,rfl,.ptr (ρ:=mv 1 2) 0 0 0 (by decide)⟩,⟨_,rfl,.pure _ ⟨⟨Zb _,trivial⟩,trivial⟩⟩,trivial⟩,⟨⟨by decide,_,rfl,RenB.single ⟨.own (ρ:=mv 1 2) 1 (by decide),trivial⟩ rfl⟩,⟨by decide,_,rfl,by rw [hsn,List.map_append]; exact .same ⟨1,acc.map strC ++ [s].map strC⟩ (by rw [← List.map_append]; exact Zu _)⟩,trivial⟩⟩
 · rintro xs z hxs ⟨-, rfl⟩
   rw [hxs]
   have hml:=Z1d N
   have hsz:∀ y∈(mem N).map nm,y.data.toList.length≤100:=fun y hy=>by
    obtain⟨r,hr,rfl⟩:=List.mem_map.1 hy
    exact hN.len r (Z1t hr)
   have hlen:((mem N).map nm).length≤64:=by rw [List.length_map]; exact hml
   have hjl:=Z6M hsz hlen ⟨#[32,97,110,100,32]⟩ (by decide)
   unfold partB
   generalize (mem N).map nm=ns at hsz hlen hjl ⊢
   (repeat'(first|refine Z2 35 ?_|refine Z1 35 ?_|refine st ?_|(apply B<;>intro hb<;>try cases hb)))<;>try refine At.mk ?_
   refine Ze (Z1D (ob:=0) (id:=1) (i0:=0) (j0:=0) rfl rfl (by decide) (Zu ns) (Nat.le_of_ble_eq_true rfl) (Nat.le_of_ble_eq_true rfl) rfl) ?_
   (repeat'(first|refine Z2 36 ?_|refine Z1 36 ?_|refine st ?_|(apply B<;>intro hb<;>try cases hb)))<;>try refine At.mk ?_
   refine Z4 (Z2O ns false ⟨#[32,97,110,100,32]⟩ (by omega) (by omega)) rfl rfl rfl ⟨Zu _,trivial,trivial⟩ rfl ?_
   have hJ:(joinS ns ⟨#[32,97,110,100,32]⟩).size≤1000000:=by
    rw [bsize]
    exact Nat.le_trans hjl (by decide)
   generalize joinS ns ⟨#[32,97,110,100,32]⟩=J at hJ ⊢
   refine Z7 (ZbH rfl rfl (by omega) hJ) rfl rfl ?_
   (repeat'(first|refine Z2 39 ?_|refine Z1 39 ?_|refine st ?_|(apply B<;>intro hb<;>try cases hb)))<;>try refine At.mk ?_
   refine Ze (Z11 (k:=33) rfl 1 (by decide)) ?_
   (refine go ?_;repeat' (apply B<;>intro hb<;>try cases hb))
   exact⟨_,_,rfl,.inl rfl,_,rfl,rfl⟩
 · rintro ex pre z - ⟨rfl,_⟩ (h|⟨id,h⟩)<;>cases h
set_option maxHeartbeats 8000000 in
theorem ZcZ {tp:PV} {nm:Nat→ByteArray} (hN:NamesW tp nm) (l:List ByteArray) (hl:l.length≤1000) (word:ByteArray) (hw:word.size≤100) (N:Nat) (h64:N<18446744073709551616) (hne:N≠0):MSpec Tryz.prog 99 ⟨1,l.map strC⟩ [.val (.string word),setN N,tp] .own (fun b'=>b'=⟨1,(l ++ [partB word N nm]).map strC⟩):=by
 have htp:pureL [tp]:=⟨hN.pure,trivial⟩
 have hfl:=hN.one
 have hce:=hN.cell
 refine ZaH ok99 (Nat.le_of_ble_eq_true rfl) fun C hC=>?_
 refine Zm ?_
 refine Za ?_
 refine Z6 rfl rfl rfl ?_
 refine Z6 (show fEval (.box (.tmp 3)) _ _ _=some (.cp [tp],_) by (show (match some tp with|some p=>if p.flat&&decide (0<p.cells.length) then some (PV.cp p.cells,_) else none|none=>none)=_; simp only [hfl,hce]; rfl)) rfl rfl ?_
 (refine go ?_;repeat' (apply B<;>intro hb<;>try cases hb))
 refine Z4 (Z2b N h64) rfl rfl rfl ⟨Z0 N,trivial⟩ rfl ?_
 rw [decide_eq_false hne]
 (repeat'(first|refine Z2 17 ?_|refine Z1 17 ?_|refine st ?_|(apply B<;>intro hb<;>try cases hb)))<;>try refine At.mk ?_
 refine Ze (Z1s (id:=1) (i0:=0) (j0:=0) rfl (by decide) (by decide) rfl 1 (by decide) (by decide)) ?_
 refine Z4 (Z1u N) rfl rfl rfl ⟨Z0 _,trivial⟩ rfl ?_
 (refine go ?_;repeat' (apply B<;>intro hb<;>try cases hb))
 refine Z2q (X:=List Nat) hC (caps := [.cp [.vec (words (digs N)) false]]) [(0,.own 0),(1,.val (.string word)),(7,.cp [tp]),(9,.ptr 1 0 0),(17,.fn 70 [.cp [.vec (words (digs N)) false]])]
  (fun z => [(0,⟨1,l.map strC⟩),(1,⟨1,[[.own 2]]⟩),(2,⟨1,((z.map nm).map strC)⟩)]) rfl ⟨⟨Zb _,trivial⟩,trivial⟩ (Z25 N h64) (fun _=>rfl)
  (fun ex pre z=>ex=.normal∧z=pre.map (·.val)) 3 (by decide) [] ⟨rfl,rfl⟩
  (Z4l (EnvQ.mem (ρ := fun i => i) (m := 3) (L := [(0, .own 0), (1, .val (.string word)), (7, .cp [tp]), (9, .ptr 1 0 0), (17, .fn 70 [.cp [.vec (words (digs N)) false]])]) ⟨⟨_, rfl, .own (ρ := fun i => i) 0 (by decide)⟩, ⟨_, rfl, .pure _ trivial⟩, ⟨_, rfl, .pure _ htp⟩, ⟨_, rfl, .ptr (ρ := fun i => i) 1 0 0 (by decide)⟩, ⟨_, rfl, .pure _ ⟨⟨Zb _, trivial⟩, trivial⟩⟩, trivial⟩)
    (HeapQ.mem (ρ:=fun i=>i) (m:=3) (L := [(0,⟨1,l.map strC⟩),(1,⟨1,[[.own 2]]⟩),(2,⟨1,((([]:List Nat).map nm).map strC)⟩)]) ⟨⟨by decide,_,rfl,.same _ (Zu l)⟩,⟨by decide,_,rfl,RenB.single ⟨.own (ρ:=fun i=>i) 2 (by decide),trivial⟩ rfl⟩,⟨by decide,_,rfl,.same _ trivial⟩,trivial⟩) hC (by decide))
  (fun z q hq=>by simp at hq; rcases hq with rfl|rfl|rfl<;>exact Nat.zero_lt_succ _) _ (fun x=>rfl) ?_ ?_ ?_
 · rintro C2 hC2 pre x z ⟨-, rfl⟩ hlen
   have hx:=Z1t x.2
   have hml:=Z1d N
   obtain⟨s,b,hs1,hs2⟩:=hN.name x.val hx
   have hsn:(pre.map (·.val) ++ [x.val]).map nm=(pre.map (·.val)).map nm ++ [nm x.val]:=by rw [List.map_append]; rfl
   have hll:((pre.map (·.val)).map nm).length=pre.length:=by rw [List.length_map,List.length_map]
   generalize (pre.map (·.val)).map nm=acc at hsn hll ⊢
   rw [hs2] at hsn
   refine Z5B ?_
   (repeat'(first|refine Z2 20 ?_|refine Z1 20 ?_|refine st ?_|(apply B<;>intro hb<;>try cases hb)))<;>try refine At.mk ?_
   refine Z7 rfl rfl rfl ?_
   (refine go ?_;repeat' (apply B<;>intro hb<;>try cases hb))
   refine Z4 hs1 rfl rfl rfl ⟨hN.pure,trivial,trivial⟩ rfl ?_
   cases b
   · rw [if_neg (by decide)] at hsn
     (refine go ?_;repeat' (apply B<;>intro hb<;>try cases hb))
     refine Z4 (Z3t x.val (by omega)) rfl rfl rfl ⟨trivial,trivial⟩ rfl ?_
     (repeat'(first|refine Z2 32 ?_|refine Z1 32 ?_|refine st ?_|(apply B<;>intro hb<;>try cases hb)))<;>try refine At.mk ?_
     refine Zz (Zy (k:=2) (m := [strC (numS x.val)]) (fl:=true) (b:=⟨1,acc.map strC⟩) rfl rfl rfl (fun q hq=>by rw [List.mem_singleton] at hq; subst hq; rfl) rfl (by
      show ((acc.map strC).length+1)*16≤_
      rw [List.length_map];omega)) rfl rfl ?_
     (refine go ?_;repeat' (apply B<;>intro hb<;>try cases hb))
     exact⟨.inl rfl,pre.map (·.val) ++ [x.val],mv 2 3,⟨rfl,by rw [List.map_append]; rfl⟩,Z3S (by decide),ZK rfl,⟨⟨_,rfl,.own (ρ:=mv 2 3) 0 (by decide)⟩,⟨_,rfl,.pure _ trivial⟩,⟨_,rfl,.pure _ htp⟩,⟨_,rfl,.ptr (ρ:=mv 2 3) 1 0 0 (by decide)⟩,⟨_,rfl,.pure _ ⟨⟨Zb _,trivial⟩,trivial⟩⟩,trivial⟩,⟨⟨by decide,_,rfl,.same _ (Zu l)⟩,⟨by decide,_,rfl,RenB.single ⟨.own (ρ:=mv 2 3) 2 (by decide),trivial⟩ rfl⟩,⟨by decide,_,rfl,by rw [hsn,List.map_append]; exact .same ⟨1,acc.map strC ++ [numS x.val].map strC⟩ (by rw [← List.map_append]; exact Zu _)⟩,trivial⟩⟩
   · rw [if_pos rfl] at hsn
     (repeat'(first|refine Z2 32 ?_|refine Z1 32 ?_|refine st ?_|(apply B<;>intro hb<;>try cases hb)))<;>try refine At.mk ?_
     refine Zz (Zy (k:=2) (m := [strC s]) (fl:=true) (b:=⟨1,acc.map strC⟩) rfl rfl rfl (fun q hq=>by rw [List.mem_singleton] at hq; subst hq; rfl) rfl (by
      show ((acc.map strC).length+1)*16≤_
      rw [List.length_map];omega)) rfl rfl ?_
     (refine go ?_;repeat' (apply B<;>intro hb<;>try cases hb))
     exact⟨.inl rfl,pre.map (·.val) ++ [x.val],mv 2 3,⟨rfl,by rw [List.map_append]; rfl⟩,Z3S (by decide),ZK rfl,⟨⟨_,rfl,.own (ρ:=mv 2 3) 0 (by decide)⟩,⟨_,rfl,.pure _ trivial⟩,⟨_,rfl,.pure _ htp⟩,⟨_,rfl,.ptr (ρ:=mv 2 3) 1 0 0 (by decide)⟩,⟨_,rfl,.pure _ ⟨⟨Zb _,trivial⟩,trivial⟩⟩,trivial⟩,⟨⟨by decide,_,rfl,.same _ (Zu l)⟩,⟨by decide,_,rfl,RenB.single ⟨.own (ρ:=mv 2 3) 2 (by decide),trivial⟩ rfl⟩,⟨by decide,_,rfl,by rw [hsn,List.map_append]; exact .same ⟨1,acc.map strC ++ [s].map strC⟩ (by rw [← List.map_append]; exact Zu _)⟩,trivial⟩⟩
 · rintro xs z hxs ⟨-, rfl⟩
   rw [hxs]
   have hml:=Z1d N
   have hsz:∀ y∈(mem N).map nm,y.data.toList.length≤100:=fun y hy=>by
    obtain⟨r,hr,rfl⟩:=List.mem_map.1 hy
    exact hN.len r (Z1t hr)
   have hlen:((mem N).map nm).length≤64:=by rw [List.length_map]; exact hml
   have hjl:=Z6M hsz hlen ⟨#[32,97,110,100,32]⟩ (by decide)
   unfold partB
   generalize (mem N).map nm=ns at hsz hlen hjl ⊢
   (repeat'(first|refine Z2 35 ?_|refine Z1 35 ?_|refine st ?_|(apply B<;>intro hb<;>try cases hb)))<;>try refine At.mk ?_
   refine Ze (Z1D (ob:=1) (id:=2) (i0:=0) (j0:=0) rfl rfl (by decide) (Zu ns) (Nat.le_of_ble_eq_true rfl) (Nat.le_of_ble_eq_true rfl) rfl) ?_
   (repeat'(first|refine Z2 36 ?_|refine Z1 36 ?_|refine st ?_|(apply B<;>intro hb<;>try cases hb)))<;>try refine At.mk ?_
   refine Z4 (Z2O ns false ⟨#[32,97,110,100,32]⟩ (by omega) (by omega)) rfl rfl rfl ⟨Zu _,trivial,trivial⟩ rfl ?_
   have hJ:(joinS ns ⟨#[32,97,110,100,32]⟩).size≤1000000:=by
    rw [bsize]
    exact Nat.le_trans hjl (by decide)
   generalize joinS ns ⟨#[32,97,110,100,32]⟩=J at hJ ⊢
   refine Z7 (ZbH rfl rfl (by omega) hJ) rfl rfl ?_
   (repeat'(first|refine Z2 39 ?_|refine Z1 39 ?_|refine st ?_|(apply B<;>intro hb<;>try cases hb)))<;>try refine At.mk ?_
   refine Zz (Zy (k:=0) (m := [strC (word++J)]) (fl:=true) (b:=⟨1,l.map strC⟩) rfl rfl rfl (fun q hq=>by rw [List.mem_singleton] at hq; subst hq; rfl) rfl (by
    show ((l.map strC).length+1)*16≤_
    rw [List.length_map];omega)) rfl rfl ?_
   (refine go ?_;repeat' (apply B<;>intro hb<;>try cases hb))
   exact⟨_,_,rfl,.inl rfl,_,⟨1,(l ++ [word++J]).map strC⟩,rfl,by rw [List.map_append]; rfl,Zu _,rfl⟩
 · rintro ex pre z - ⟨rfl,_⟩ (h|⟨id,h⟩)<;>cases h
theorem Zg6 {r:Nat} (h:r<64):(numS r).data.toList.length≤100:=by have:=Z6L (k:=r) (by omega); omega
theorem namesNil:NamesW (.val (.pointer none)) numS where
 one:=rfl
 cell:=rfl
 pure:=trivial
 len:=fun r h=>Zg6 h
 name:=fun r h=>by
  refine⟨⟨#[]⟩,false,?_,rfl⟩
  have hlen:Spec Tryz.prog 165 [.val (.pointer none)] (· = .val (.int .i64 0)):=by
   refine Z3 ok165 (Nat.le_of_ble_eq_true rfl) fun C hC=>?_
   (refine go ?_;repeat' (apply B<;>intro hb<;>try cases hb))
   exact Z5 rfl trivial rfl
  refine Z3 ok139 (Nat.le_of_ble_eq_true rfl) fun C hC=>?_
  (repeat'(first|refine Z2 7 ?_|refine Z1 7 ?_|refine st ?_|(apply B<;>intro hb<;>try cases hb)))<;>try refine At.mk ?_
  refine Zi rfl rfl rfl (fun hb=>?_) (fun hb=>?_)
  · (refine go ?_;repeat' (apply B<;>intro hb<;>try cases hb))
    exact Z5 rfl ⟨trivial,trivial,trivial⟩ rfl
  · have h1 : ¬ (r : Int) < 1 := of_decide_eq_false hb
    clear hb
    (refine go ?_;repeat' (apply B<;>intro hb<;>try cases hb))
    refine Z4 hlen rfl rfl rfl ⟨trivial,trivial⟩ rfl ?_
    refine Zh rfl ?_
    refine Z7 (Zw (v:=true) rfl (decide_eq_true (by omega))) rfl rfl ?_
    (refine go ?_;repeat' (apply B<;>intro hb<;>try cases hb))
    exact Z5 rfl ⟨trivial,trivial,trivial⟩ rfl
section
variable {tp:PV} {nm:Nat→ByteArray} (hN:NamesW tp nm)
include hN
theorem Z7A (word:ByteArray):Spec Tryz.prog 99 [.vec [] true,.val (.string word),setN 0,tp] (· = .vec [] true):=by
 have hfl:=hN.one
 have hce:=hN.cell
 refine Z3 ok99 (Nat.le_of_ble_eq_true rfl) fun C hC=>?_
 refine Zm ?_
 refine Za ?_
 refine Z6 rfl rfl rfl ?_
 refine Z6 (show fEval (.box (.tmp 3)) _ _ _=some (.cp [tp],_) by (show (match some tp with|some p=>if p.flat&&decide (0<p.cells.length) then some (PV.cp p.cells,_) else none|none=>none)=_; simp only [hfl,hce]; rfl)) rfl rfl ?_
 (refine go ?_;repeat' (apply B<;>intro hb<;>try cases hb))
 refine Z4 (Z2b 0 (by decide)) rfl rfl rfl ⟨Z0 0,trivial⟩ rfl ?_
 (refine go ?_;repeat' (apply B<;>intro hb<;>try cases hb))
 exact Z5 rfl trivial rfl
theorem ZaI {n k:Nat} {h:Heap} (hh:h n=none) (word:ByteArray):ISpec Tryz.prog 99 n [.own k,.val (.string word),setN 0,tp] h (fun n' r h'=>n'=n∧r=.own k∧h'=h):=by
 have hfl:=hN.one
 have hce:=hN.cell
 refine Z1J ok99 (Nat.le_of_ble_eq_true rfl) fun C hC=>?_
 refine Zm ?_
 refine Za ?_
 refine Z6 rfl rfl hh ?_
 refine Z6 (show fEval (.box (.tmp 3)) _ _ _=some (.cp [tp],_) by (show (match some tp with|some p=>if p.flat&&decide (0<p.cells.length) then some (PV.cp p.cells,_) else none|none=>none)=_; simp only [hfl,hce]; rfl)) rfl hh ?_
 refine Z7 rfl rfl hh ?_
 refine Z12 ?_
 refine Zm ?_
 refine Zm ?_
 refine Za ?_
 refine Z7 rfl rfl hh ?_
 refine Z4 (Z2b 0 (by decide)) rfl rfl rfl ⟨Z0 0,trivial⟩ hh ?_
 refine Z12 ?_
 refine Z7O rfl ?_
 refine Zm ?_
 refine Za ?_
 refine Z7 rfl rfl hh ?_
 refine Z7 rfl rfl hh ?_
 refine Z12 ?_
 refine Zb2 ?_
 exact⟨_,_,rfl,.inl rfl,rfl,rfl,rfl⟩
def hasW:ByteArray:=⟨#[104,97,115,32]⟩
def lacksW:ByteArray:=⟨#[108,97,99,107,115,32]⟩
def partsW (c:Cu) (nm:Nat→ByteArray):List ByteArray:=(if c.1=0 then [] else [partB hasW c.1 nm])++(if c.2=0 then [] else [partB lacksW c.2 nm])
def sentW (c:Cu) (nm:Nat→ByteArray):ByteArray:=if partsW c nm = [] then ⟨#[97,110,121,32,114,111,108,101,115]⟩ else joinS (partsW c nm) ⟨#[44,32]⟩
theorem Z9m {word:ByteArray} (hw:word.data.toList.length≤100) (N:Nat):(partB word N nm).data.toList.length≤100100:=by
 have hml:=Z1d N
 have hsz:∀ y∈(mem N).map nm,y.data.toList.length≤100:=fun y hy=>by
  obtain⟨r,hr,rfl⟩:=List.mem_map.1 hy
  exact hN.len r (Z1t hr)
 have hjl:=Z6M hsz (by rw [List.length_map]; exact hml) ⟨#[32,97,110,100,32]⟩ (by decide)
 unfold partB
 rw [ByteArray.data_append,Array.toList_append,List.length_append]
 have:(joinS ((mem N).map nm) ⟨#[32,97,110,100,32]⟩).data.toList.length≤100000:=hjl
 omega
omit hN in
theorem Z8u {l:List ByteArray} (h:∀ x∈l,x.data.toList.length≤100100) (hl:l.length≤2):(Go.Lib.join (l.map (·.data.toList)) (⟨#[44,32]⟩:ByteArray).data.toList).length≤140737488355328:=by
 cases l with
 | nil=>simp [Go.Lib.join_nil]
 | cons x l =>
   rw [List.map_cons,Go.Lib.join_length]
   have:=ZaG (k:=100100) (l:=(x :: l).map (·.data.toList)) fun y hy=>by
    obtain⟨z,hz,rfl⟩:=List.mem_map.1 hy
    exact h z hz
   rw [List.map_cons] at this
   simp only [List.length_cons,List.length_map] at this hl ⊢
   simp only [List.length_nil]
   omega
set_option maxHeartbeats 4000000 in
theorem Zd0 (c:Cu) (hc:Ok64 c):Spec Tryz.prog 51 [cuP c,tp] (· = .val (.string (sentW c nm))):=by
 obtain⟨y,z⟩:=c
 obtain⟨hy,hz⟩:y<18446744073709551616∧z<18446744073709551616:=hc
 have htp:=hN.pure
 have b1:=Z9m hN (word:=hasW) (by decide) y
 have b2:=Z9m hN (word:=lacksW) (by decide) z
 refine Z3 ok51 (Nat.le_of_ble_eq_true rfl) fun C hC=>?_
 refine Zm ?_
 refine Za ?_
 refine Z6 rfl rfl rfl ?_
 unfold sentW partsW
 dsimp only
 by_cases h1:y=0
 · subst h1
   rw [if_pos rfl,List.nil_append]
   (repeat'(first|refine Z2 8 ?_|refine Z1 8 ?_|refine st ?_|(apply B<;>intro hb<;>try cases hb)))<;>try refine At.mk ?_
   refine Z7 rfl rfl rfl ?_
   refine Z4 (Z7A hN hasW) rfl rfl rfl ⟨trivial,trivial,Z0 0,htp,trivial⟩ rfl ?_
   by_cases h2:z=0
   · subst h2
     (repeat'(first|refine Z2 13 ?_|refine Z1 13 ?_|refine st ?_|(apply B<;>intro hb<;>try cases hb)))<;>try refine At.mk ?_
     refine Z7 rfl rfl rfl ?_
     refine Z4 (Z7A hN lacksW) rfl rfl rfl ⟨trivial,trivial,Z0 0,htp,trivial⟩ rfl ?_
     (refine go ?_;repeat' (apply B<;>intro hb<;>try cases hb))
     exact Z5 rfl trivial rfl
   · rw [if_neg h2]
     (repeat'(first|refine Z2 13 ?_|refine Z1 13 ?_|refine st ?_|(apply B<;>intro hb<;>try cases hb)))<;>try refine At.mk ?_
     refine Z7 rfl rfl rfl ?_
     refine Z8b (Z7z hN lacksW (by decide) z hz h2) Z5R (Zu _) rfl rfl ⟨trivial,trivial,Z0 z,htp,trivial⟩ ?_
     (repeat'(first|refine Z2 18 ?_|refine Z1 18 ?_|refine st ?_|(apply B<;>intro hb<;>try cases hb)))<;>try refine At.mk ?_
     refine Ze (Zp (k:=5) (id:=0) (b:=⟨1,[partB lacksW z nm].map strC⟩) rfl rfl (Zu _)) ?_
     (repeat'(first|refine Z2 19 ?_|refine Z1 19 ?_|refine st ?_|(apply B<;>intro hb<;>try cases hb)))<;>try refine At.mk ?_
     refine Z4 (Z2O [partB lacksW z nm] false ⟨#[44,32]⟩ (by simp) (Z8u (fun x hx=>by rw [List.mem_singleton] at hx; subst hx; exact b2) (by simp))) rfl rfl rfl ⟨Zu _,trivial,trivial⟩ rfl ?_
     (refine go ?_;repeat' (apply B<;>intro hb<;>try cases hb))
     exact Z5 rfl trivial (by rw [if_neg (by simp)])
 · rw [if_neg h1]
   (repeat'(first|refine Z2 8 ?_|refine Z1 8 ?_|refine st ?_|(apply B<;>intro hb<;>try cases hb)))<;>try refine At.mk ?_
   refine Z7 rfl rfl rfl ?_
   refine Z8b (Z7z hN hasW (by decide) y hy h1) Z5R (Zu _) rfl rfl ⟨trivial,trivial,Z0 y,htp,trivial⟩ ?_
   by_cases h2:z=0
   · subst h2
     rw [if_pos rfl,List.append_nil]
     (repeat'(first|refine Z2 13 ?_|refine Z1 13 ?_|refine st ?_|(apply B<;>intro hb<;>try cases hb)))<;>try refine At.mk ?_
     refine Z7 rfl rfl rfl ?_
     refine ZX rfl rfl (ZaI hN (k:=0) rfl lacksW) ?_
     rintro n' x h' ⟨rfl,rfl,rfl⟩
     (repeat'(first|refine Z2 18 ?_|refine Z1 18 ?_|refine st ?_|(apply B<;>intro hb<;>try cases hb)))<;>try refine At.mk ?_
     refine Ze (Zp (k:=5) (id:=0) (b:=⟨1,[partB hasW y nm].map strC⟩) rfl rfl (Zu _)) ?_
     (repeat'(first|refine Z2 19 ?_|refine Z1 19 ?_|refine st ?_|(apply B<;>intro hb<;>try cases hb)))<;>try refine At.mk ?_
     refine Z4 (Z2O [partB hasW y nm] false ⟨#[44,32]⟩ (by simp) (Z8u (fun x hx=>by rw [List.mem_singleton] at hx; subst hx; exact b1) (by simp))) rfl rfl rfl ⟨Zu _,trivial,trivial⟩ rfl ?_
     (refine go ?_;repeat' (apply B<;>intro hb<;>try cases hb))
     exact Z5 rfl trivial (by rw [if_neg (by simp)])
   · rw [if_neg h2]
     (repeat'(first|refine Z2 13 ?_|refine Z1 13 ?_|refine st ?_|(apply B<;>intro hb<;>try cases hb)))<;>try refine At.mk ?_
     refine Z7 rfl rfl rfl ?_
     refine ZgZ (k:=0) (ZcZ hN [partB hasW y nm] (by simp) lacksW (by decide) z hz h2) Z5R rfl rfl rfl rfl (Zu _) ⟨trivial,Z0 z,htp,trivial⟩ ?_
     rintro b' hb' rfl
     (repeat'(first|refine Z2 18 ?_|refine Z1 18 ?_|refine st ?_|(apply B<;>intro hb<;>try cases hb)))<;>try refine At.mk ?_
     refine Ze (Zp (k:=5) (id:=1) (b:=⟨1,[partB hasW y nm,partB lacksW z nm].map strC⟩) rfl rfl (Zu _)) ?_
     (repeat'(first|refine Z2 19 ?_|refine Z1 19 ?_|refine st ?_|(apply B<;>intro hb<;>try cases hb)))<;>try refine At.mk ?_
     refine Z4 (Z2O [partB hasW y nm,partB lacksW z nm] false ⟨#[44,32]⟩ (by simp) (Z8u (fun x hx=>by
      rcases List.mem_cons.1 hx with rfl|hx
      · exact b1
      · rw [List.mem_singleton] at hx; subst hx; exact b2) (by simp))) rfl rfl rfl ⟨Zu _,trivial,trivial⟩ rfl ?_
     (refine go ?_;repeat' (apply B<;>intro hb<;>try cases hb))
     exact Z5 rfl trivial (by rw [if_neg (by simp)]; rfl)
end
def fmF:Fm:=.mk 11 0 [] [.mk 5 0 [1,2,3] [],.mk 1 1 [] []]
def fmG:Fm:=.mk 10 0 [] [.mk 4 0 [1] [],.mk 4 0 [2] []]
theorem ZeO:checkM fmF=0:=by decide +kernel
theorem ZeP:checkM fmG=0:=by decide +kernel
theorem Zg7:vioL fmF = [(6,0),(10,0),(12,0)]:=by decide +kernel
theorem Zg8:vioL fmG = [(2,4)]:=by decide +kernel
theorem Zhn:firstC (vioL fmF) 14=some (6,0):=by rw [Zg7]; decide +kernel
theorem Zho:firstC (vioL fmG) 10=some (2,4):=by rw [Zg8]; decide +kernel
theorem ZbI {l:List Pr} {M:Nat} (hl:Small l) (hu:∀ a r,Up l a r↔a=4∧M.testBit r=true) {s:Nat} (hs:s<18446744073709551616) (h0:s.testBit 0=false):clo l s=s ||| (if s.testBit 4 then M else 0):=Nat.eq_of_testBit_eq fun r=>by
 rw [Bool.eq_iff_iff,ZgY hl hs,Nat.testBit_or,Bool.or_eq_true]
 constructor
 · rintro ⟨a, h1, h2, h3⟩
   rcases (Z6z hl r a).1 h3 with h4|rfl
   · obtain ⟨rfl, h5⟩ := (hu a r).1 h4
     rw [if_pos h1]; exact .inr h5
   · exact .inl h1
 · rintro (h1 | h1)
   · exact⟨r,h1,Nat.pos_of_ne_zero (n:=r) fun e=>by (rw [e,h0] at h1; cases h1),(Z6z hl r r).2 (.inr rfl)⟩
   · by_cases h4 : s.testBit 4 = true
     · rw [if_pos h4] at h1
       exact⟨4,h4,by decide,(Z6z hl r 4).2 (.inl ((hu 4 r).2 ⟨rfl,h1⟩))⟩
     · rw [if_neg h4,Nat.zero_testBit] at h1; cases h1
theorem ZhH (a r:Nat):Up [(4,1),(4,2)] a r↔a=4∧(6:Nat).testBit r=true:=by
 constructor
 · intro h
   induction h with
   | one h =>
     simp only [List.mem_cons,Prod.mk.injEq,List.not_mem_nil,or_false] at h
     rcases h with⟨rfl,rfl⟩|⟨rfl,rfl⟩<;>exact⟨rfl,by decide⟩
   | more _ k ih =>
     simp only [List.mem_cons,Prod.mk.injEq,List.not_mem_nil,or_false] at k
     rcases k with⟨rfl,rfl⟩|⟨rfl,rfl⟩<;>exact absurd ih.2 (by decide)
 · rintro ⟨rfl, h⟩
   have hr:r<3:=Nat.lt_of_not_le fun h3=>by
    rw [Nat.testBit_lt_two_pow (Nat.lt_of_lt_of_le (by decide:6<2 ^ 3) (Nat.pow_le_pow_right (by decide) h3))] at h; cases h
   match r,hr,h with
   | 0,_,h=>cases h
   | 1,_,_=>exact .one (by simp)
   | 2,_,_=>exact .one (by simp)
theorem ZhI (a r:Nat):Up [(4,2)] a r↔a=4∧(4:Nat).testBit r=true:=by
 constructor
 · intro h
   induction h with
   | one h =>
     simp only [List.mem_cons,Prod.mk.injEq,List.not_mem_nil,or_false] at h
     obtain⟨rfl,rfl⟩:=h
     exact⟨rfl,by decide⟩
   | more _ k ih =>
     simp only [List.mem_cons,Prod.mk.injEq,List.not_mem_nil,or_false] at k
     obtain⟨rfl,rfl⟩:=k
     exact absurd ih.2 (by decide)
 · rintro ⟨rfl, h⟩
   have hr:r<3:=Nat.lt_of_not_le fun h3=>by
    rw [Nat.testBit_lt_two_pow (Nat.lt_of_lt_of_le (by decide:4<2 ^ 3) (Nat.pow_le_pow_right (by decide) h3))] at h; cases h
   match r,hr,h with
   | 0,_,h=>cases h
   | 1,_,h=>cases h
   | 2,_,_=>exact .one (by simp)
theorem ZeQ:Small [(4,1),(4,2)]:=fun p hp=>by
 simp only [List.mem_cons,List.not_mem_nil,or_false] at hp
 rcases hp with rfl|rfl<;>decide
theorem Zh0:Small [(4,2)]:=fun p hp=>by
 simp only [List.mem_cons,List.not_mem_nil,or_false] at hp
 subst hp; decide
theorem Zgr {s:Nat} (h:s ||| 24=24):s=0 ∨ s=8 ∨ s=16 ∨ s=24:=by
 have hlt:s<25:=Nat.lt_succ_of_le (by rw [← h]; exact Nat.left_le_or)
 have key:∀ s,s<25→s ||| 24=24→s=0 ∨ s=8 ∨ s=16 ∨ s=24:=by decide
 exact key s hlt h
theorem ZbJ {s:Nat} (h:s ||| 20=20):s=0 ∨ s=4 ∨ s=16 ∨ s=20:=by
 have hlt:s<21:=Nat.lt_succ_of_le (by rw [← h]; exact Nat.left_le_or)
 have key:∀ s,s<21→s ||| 20=20→s=0 ∨ s=4 ∨ s=16 ∨ s=20:=by decide
 exact key s hlt h
theorem Zhx {s:Nat} (h:s ||| 24=24):gdR fmF [(4,1),(4,2)] 24 s=decide (s=16 ∨ s=24):=by
 unfold gdR
 rcases Zgr h with rfl|rfl|rfl|rfl
 all_goals
  rw [ZbI ZeQ ZhH (by decide) (by decide)]
  decide +kernel
theorem Zhy {s:Nat} (h:s ||| 20=20):gdA fmG [(4,2)] 10 s=decide (s≠0):=by
 unfold gdA
 rcases ZbJ h with rfl|rfl|rfl|rfl
 all_goals
  rw [ZbI Zh0 ZhI (by decide) (by decide)]
  decide +kernel
theorem Zhp:Mins (fun s=>s ||| 24=24) (gdR fmF [(4,1),(4,2)] 24) [16]:=⟨by simp,fun s=>by
 rw [List.mem_singleton]
 constructor
 · rintro rfl
   refine⟨by decide,by rw [Zhx (by decide)]; rfl,fun s' h1 h2=>?_⟩
   rw [Zhx h1] at h2
   rcases of_decide_eq_true h2 with rfl|rfl<;>decide +kernel
 · rintro ⟨h1, h2, h3⟩
   rw [Zhx h1] at h2
   rcases of_decide_eq_true h2 with rfl|rfl
   · rfl
   · have := h3 16 (by decide) (by rw [Zhx (by decide)]; rfl)
     exact absurd this (by decide +kernel)⟩
theorem Zhq:Mins (fun s=>s ||| 20=20) (gdA fmG [(4,2)] 10) [4,16]:=⟨by simp,fun s=>by
 rw [List.mem_cons,List.mem_singleton]
 constructor
 · rintro (rfl | rfl)
   all_goals
    refine⟨by decide,by rw [Zhy (by decide)]; rfl,fun s' h1 h2=>?_⟩
    rw [Zhy h1] at h2
    rcases ZbJ h1 with rfl|rfl|rfl|rfl
    · cases h2
    all_goals decide +kernel
 · rintro ⟨h1, h2, h3⟩
   rw [Zhy h1] at h2
   rcases ZbJ h1 with rfl|rfl|rfl|rfl
   · cases h2
   · exact .inl rfl
   · exact .inr rfl
   · have := h3 16 (by decide) (by rw [Zhy (by decide)]; rfl)
     exact absurd this (by decide +kernel)⟩
theorem Zhr:SortedK [16]:=List.pairwise_singleton _ _
theorem Zhs:SortedK [4,16]:=by
 unfold SortedK
 rw [List.pairwise_cons]
 refine⟨fun a ha=>?_,List.pairwise_singleton _ _⟩
 rw [List.mem_singleton] at ha
 subst ha
 decide +kernel
theorem Zgs:textB 16=⟨#[123,52,125]⟩:=by
 unfold textB
 rw [show mem 16 = [4] by decide +kernel]
 show (⟨(([123]++((if 1 < [(123:UInt8)].length then [32] else [])++Go.Lib.decDigits 4)) ++ [125]).toArray⟩:ByteArray)=_
 rw [Go.Lib.decDigits_one (by decide)]; rfl
theorem Zht:textB 4=⟨#[123,50,125]⟩:=by
 unfold textB
 rw [show mem 4 = [2] by decide +kernel]
 show (⟨(([123]++((if 1 < [(123:UInt8)].length then [32] else [])++Go.Lib.decDigits 2)) ++ [125]).toArray⟩:ByteArray)=_
 rw [Go.Lib.decDigits_one (by decide)]; rfl
theorem Zhu:numS 1=⟨#[49]⟩:=by unfold numS; rw [Go.Lib.decDigits_one (by decide)]; rfl
theorem Zhv:numS 2=⟨#[50]⟩:=by unfold numS; rw [Go.Lib.decDigits_one (by decide)]; rfl
theorem Zh1:textS (6,0)=⟨#[49,32,50]⟩:=by
 have e1:mem ((6:Nat) ||| 0) = [1,2]:=by decide +kernel
 have h:litsS (6,0) [1,2] = [⟨#[49]⟩,⟨#[50]⟩]:=by
  unfold litsS litS
  simp only [List.flatMap_cons,List.flatMap_nil]
  rw [Zhu,Zhv]
  rfl
 unfold textS
 show (if litsS (6,0) (mem (6 ||| 0)) = [] then _ else joinS (litsS (6,0) (mem (6 ||| 0))) ⟨#[32]⟩)=_
 rw [e1,h,if_neg (by simp)]
 rfl
theorem Zh2:sentW (2,4) numS=⟨#[104,97,115,32,49,44,32,108,97,99,107,115,32,50]⟩:=by
 have e1:mem (2:Nat) = [1]:=by decide +kernel
 have e2:mem (4:Nat) = [2]:=by decide +kernel
 have h:partsW (2,4) numS = [⟨#[104,97,115,32,49]⟩,⟨#[108,97,99,107,115,32,50]⟩]:=by
  show (if (2:Nat)=0 then [] else [partB hasW 2 numS])++(if (4:Nat)=0 then [] else [partB lacksW 4 numS])=_
  rw [if_neg (by decide),if_neg (by decide)]
  unfold partB
  rw [e1,e2]
  simp only [List.map]
  rw [Zhu,Zhv]
  rfl
 unfold sentW
 rw [h,if_neg (by simp)]
 rfl
def u6C (s:Nat):List PV := [.val (.int .u64 (s:Int))]
def u6L (l:List Nat):List (List PV):=l.map u6C
theorem Z1m (l:List Nat):pureLL (u6L l):=Z1Q (enc:=u6C) (fun _=>⟨trivial,trivial⟩) l
theorem Z8v (l:List Nat):(u6L l).length=l.length:=by simp [u6L]
theorem Z2D (l:List Nat):∀ c∈u6L l,c.length=1:=fun c hc=>by obtain⟨y,_,rfl⟩:=List.mem_map.1 hc; rfl
noncomputable def gdM (f:Fm) (l:List Pr) (X:Nat) (add:Bool) (s:Nat):Bool:=if add then gdA f l X s else gdR f l X s
set_option maxHeartbeats 2000000 in
theorem Z6N {f:Fm} (m:Made6 f) (l:List Pr) (fl:Bool) (hl:Small l) (s:Nat) (hs:s<18446744073709551616):Spec Tryz.prog 118 [.agg (fC .i64 f),.vec (l.map prC) fl,.val (.int .u64 (s:Int))] (· = .val (.bool (!holdB f (clo l s)))):=by
 have hms:=m.size
 have hb:(evM (clo l s) [] f != 1) = !holdB f (clo l s):=by rw [← ZfZ]; rfl
 refine Z3 ok118 (Nat.le_of_ble_eq_true rfl) fun C hC=>?_
 refine Zm ?_
 refine Za ?_
 refine Z6 rfl rfl rfl ?_
 (repeat'(first|refine Z2 10 ?_|refine Z1 10 ?_|refine st ?_|(apply B<;>intro hb<;>try cases hb)))<;>try refine At.mk ?_
 refine Zt (Z8p l fl hl s hs) rfl rfl rfl ⟨Zg l,trivial,trivial⟩ ?_
 (repeat'(first|refine Z2 11 ?_|refine Z1 11 ?_|refine st ?_|(apply B<;>intro hb<;>try cases hb)))<;>try refine At.mk ?_
 refine Zt (Z9g (clo l s) f.depth f (Nat.le_refl _) m.wf (by omega)) rfl rfl rfl ⟨Zk _ _,trivial,trivial⟩ ?_
 refine Zq (Zw rfl hb) rfl rfl ?_
 generalize holdB f (clo l s)=v
 cases v
 all_goals
  (refine go ?_;repeat' (apply B<;>intro hb<;>try cases hb))
  exact Z5 rfl trivial rfl
theorem Zg9 {a b:Nat} (ha:a<18446744073709551616) (hb:b<18446744073709551616):lexZ (intsN (mem a)) (intsN (mem b))=sgnI (key a) (key b):=by rw [Zgq,ZgJ ha hb]
theorem Zga (s:Nat) (k:Nat):((((nums (intsN (mem s))).length:Nat):Int) != (k:Int)) = !decide (popK 64 s=k):=by
 rw [ZB,Z5J,show (intsN (mem s)).length=(mem s).length by simp [intsN]]
 rw [Bool.eq_iff_iff,bne_iff_ne]
 simp only [Bool.not_eq_true',decide_eq_false_iff_not,ne_eq]
 omega
structure SzI (good:Nat→Bool) (fr k:Nat) (out:List Nat):Prop where
 le:k≤9
 nil:out = []→NoneBelow good fr k
 some:out≠[]→RefSm good fr out
theorem and_or_eq' (s R:Nat):s &&& R=s↔s ||| R=R:=by rw [Nat.and_comm]; exact Zew s R
set_option maxHeartbeats 16000000 in
theorem Z3u {f:Fm} (m:Made6 f) (l:List Pr) (f1:Bool) (hl:Small l) (X R:Nat) (hX:X<256) (hR:R<256) (add:Bool):Spec Tryz.prog 78 [.agg (fC .i64 f),.vec (l.map prC) f1,.val (.int .u64 (X:Int)),.val (.int .u64 (R:Int)),.val (.bool add)] fun r=>∃ out fl,RefSm (gdM f l X add) R out∧r=.vec (u6L out) fl:=by
 have hpf:∀ D,innL D (fC .i64 f):=fun D=>Z5i .i64 f D
 have hpl:∀ D,innLL D (l.map prC):=fun D=>Zd (fun _ h=>h.elim) _ (Zg l)
 have hu:∀ out D,innLL D (u6L out):=fun out D=>Zd (fun _ h=>h.elim) _ (Z1m out)
 refine Z3 ok78 (Nat.le_of_ble_eq_true rfl) fun C hC=>?_
 refine Zm ?_
 refine Za ?_
 refine Z6 rfl rfl rfl ?_
 (refine go ?_;repeat' (apply B<;>intro hb<;>try cases hb))
 refine Zr hC (fun (z:Nat×List Nat×Bool)=>SzI (gdM f l X add) R z.1 z.2.1) (fun z=>9-z.1) 0 (fun z => [(1,.vec (l.map prC) f1),(2,.val (.int .u64 (X:Int))),(3,.val (.int .u64 (R:Int))),(4,.val (.bool add)),(5,.cp (fC .i64 f)),(11,.vec (u6L z.2.1) z.2.2),(12,.val (.int .i64 (z.1:Int)))]) (fun _=>[]) (Nat.zero_le _) (0,[],true) ⟨Nat.zero_le _,fun _=>NoneBelow.begin _ _,fun h=>absurd rfl h⟩
  ⟨⟨rfl,hpl _⟩,⟨rfl,trivial⟩,⟨rfl,trivial⟩,⟨rfl,trivial⟩,⟨rfl,hpf _⟩,⟨rfl,hu _ _⟩,⟨rfl,trivial⟩,trivial⟩ trivial ?_
 rintro⟨k,out,fl⟩ hz
 dsimp only at hz ⊢
 have hk:=hz.le
 have hkinc:IntKind.i64.wrap ((k:Int)+1)=((k+1:Nat):Int):=IntWalk.i64_in _ ⟨by omega,by omega⟩
 (repeat'(first|refine Z2 18 ?_|refine Z1 18 ?_|refine st ?_|(apply B<;>intro hb<;>try cases hb)))<;>try refine At.mk ?_
 refine Zi rfl rfl rfl (fun hb=>?_) (fun hb=>?_)
 · have hk8 : k ≤ 8 := by have := of_decide_eq_true hb; omega
   clear hb
   cases out with
   | cons a r =>
     have hrs:=hz.some (by simp)
     (repeat'(first|refine Z2 22 ?_|refine Z1 22 ?_|refine st ?_|(apply B<;>intro hb<;>try cases hb)))<;>try refine At.mk ?_
     refine Zh rfl ?_
     refine Z7 (Zw (v:=false) rfl (by show (((u6L (a :: r)).length:Int) == 0)=false; rw [Z8v,beq_eq_false_iff_ne,List.length_cons];omega)) rfl rfl ?_
     (refine go ?_;repeat' (apply B<;>intro hb<;>try cases hb))
     exact Z5 rfl (Z1m _) ⟨_,_,hrs,rfl⟩
   | nil =>
     have hnb:=hz.nil rfl
     (refine go ?_;repeat' (apply B<;>intro hb<;>try cases hb))
     refine Zr hC (fun (z:Nat×List Nat×Bool)=>z.1≤256∧AtSize (gdM f l X add) R k z.1 z.2.1) (fun z=>256-z.1) 0 (fun z => [(1,.vec (l.map prC) f1),(2,.val (.int .u64 (X:Int))),(3,.val (.int .u64 (R:Int))),(4,.val (.bool add)),(5,.cp (fC .i64 f)),(11,.vec (u6L z.2.1) z.2.2),(12,.val (.int .i64 (k:Int))),(13,.val (.int .u64 (z.1:Int)))]) (fun _=>[]) (Nat.zero_le _) (0,[],fl) ⟨Nat.zero_le _,AtSize.begin _ _ _⟩
      ⟨⟨rfl,hpl _⟩,⟨rfl,trivial⟩,⟨rfl,trivial⟩,⟨rfl,trivial⟩,⟨rfl,hpf _⟩,⟨rfl,hu _ _⟩,⟨rfl,trivial⟩,⟨rfl,trivial⟩,trivial⟩ trivial ?_
     rintro⟨s,out,fl⟩ ⟨hs,hat⟩
     dsimp only at hs hat ⊢
     have hsinc:IntKind.u64.wrap ((s:Int)+1)=((s+1:Nat):Int):=IntWalk.u64_in _ ⟨by omega,by omega⟩
     have hol:out.length≤256:=by
      have:=Z3L 256 out hat.nd fun x hx=>by have:=((hat.iff x).1 hx).1; omega
      exact this
     (repeat'(first|refine Z2 27 ?_|refine Z1 27 ?_|refine st ?_|(apply B<;>intro hb<;>try cases hb)))<;>try refine At.mk ?_
     refine Zi rfl rfl rfl (fun hb=>?_) (fun hb=>?_)
     · have hsl : s < 256 := by have := of_decide_eq_true hb; omega
       clear hb
       have hA:=bits_and_u64_nat s R (by omega) (by omega)
       have hne:(((s &&& R:Nat):Int) != (s:Int)) = !decide (s &&& R=s):=by
        rw [Bool.eq_iff_iff,bne_iff_ne]; simp; omega
       have hsub:s &&& R=s↔s ||| R=R:=and_or_eq' s R
       (repeat'(first|refine Z2 32 ?_|refine Z1 32 ?_|refine st ?_|(apply B<;>intro hb<;>try cases hb)))<;>try refine At.mk ?_
       refine Zn rfl rfl rfl hA ?_
       (repeat'(first|refine Z2 34 ?_|refine Z1 34 ?_|refine st ?_|(apply B<;>intro hb<;>try cases hb)))<;>try refine At.mk ?_
       refine Z2e rfl rfl rfl hne ?_
       by_cases h1:s &&& R=s
       · rw [decide_eq_true h1]
         (repeat'(first|refine Z2 37 ?_|refine Z1 37 ?_|refine st ?_|(apply B<;>intro hb<;>try cases hb)))<;>try refine At.mk ?_
         refine Zh rfl ?_
         refine Z4 (Z26 s (by omega)) rfl rfl rfl ⟨trivial,trivial⟩ rfl ?_
         (repeat'(first|refine Z2 40 ?_|refine Z1 40 ?_|refine st ?_|(apply B<;>intro hb<;>try cases hb)))<;>try refine At.mk ?_
         refine Zh rfl ?_
         refine Z2e rfl rfl rfl (Zga s k) ?_
         by_cases h2:popK 64 s=k
         · rw [decide_eq_true h2]
           have hAN:=ZJ X s (by omega) (by omega)
           have hOR:=bits_or_u64_nat X s (by omega) (by omega)
           have hor:X ||| s<18446744073709551616:=Z38 (by omega) (by omega)
           have hmi:=Z1v (a:=X) s (by omega)
           (repeat'(first|refine Z2 44 ?_|refine Z1 44 ?_|refine st ?_|(apply B<;>intro hb<;>try cases hb)))<;>try refine At.mk ?_
           refine Zn rfl rfl rfl hAN ?_
           refine Z7 rfl rfl rfl ?_
           refine Z12 ?_
           show aw _ _ _ _ _ _ _
           refine Z1r hC True 0 [(1,.vec (l.map prC) f1),(2,.val (.int .u64 (X:Int))),(3,.val (.int .u64 (R:Int))),(4,.val (.bool add)),(5,.cp (fC .i64 f)),(11,.vec (u6L out) fl),(12,.val (.int .i64 (k:Int))),(13,.val (.int .u64 (s:Int))),(14,.val (.int .u64 ((if add then X ||| s else minusN X s:Nat):Int)))] [] (Nat.zero_le _) ?_ fun _=>?_
           · cases add
             · (refine go ?_;repeat' (apply B<;>intro hb<;>try cases hb))
               exact⟨trivial,⟨⟨rfl,hpl _⟩,⟨rfl,trivial⟩,⟨rfl,trivial⟩,⟨rfl,trivial⟩,⟨rfl,hpf _⟩,⟨rfl,hu _ _⟩,⟨rfl,trivial⟩,⟨rfl,trivial⟩,⟨rfl,trivial⟩,trivial⟩,trivial⟩
             · (repeat'(first|refine Z2 48 ?_|refine Z1 48 ?_|refine st ?_|(apply B<;>intro hb<;>try cases hb)))<;>try refine At.mk ?_
               refine Zn rfl rfl rfl hOR ?_
               (refine go ?_;repeat' (apply B<;>intro hb<;>try cases hb))
               exact⟨trivial,⟨⟨rfl,hpl _⟩,⟨rfl,trivial⟩,⟨rfl,trivial⟩,⟨rfl,trivial⟩,⟨rfl,hpf _⟩,⟨rfl,hu _ _⟩,⟨rfl,trivial⟩,⟨rfl,trivial⟩,⟨rfl,trivial⟩,trivial⟩,trivial⟩
           have hA64:(if add then X ||| s else minusN X s)<18446744073709551616:=by split<;>assumption
           have hgd:holdB f (clo l (if add then X ||| s else minusN X s))=gdM f l X add s:=by unfold gdM gdA gdR; cases add<;>rfl
           (refine go ?_;repeat' (apply B<;>intro hb<;>try cases hb))
           refine Z4 (Z6N m l f1 hl _ hA64) rfl rfl rfl ⟨Zk _ _,Zg l,trivial,trivial⟩ rfl ?_
           rw [hgd]
           cases hg:gdM f l X add s with
           | false =>
             have hnx:=hat.skip (fun h=>by rw [hg] at h; cases h.2.2)
             (refine go ?_;repeat' (apply B<;>intro hb<;>try cases hb))
             exact⟨(s+1,out,fl),⟨hsl,hnx⟩,by show 256-(s+1)<256-s; omega,⟨⟨rfl,hpl _⟩,⟨rfl,trivial⟩,⟨rfl,trivial⟩,⟨rfl,trivial⟩,⟨rfl,hpf _⟩,⟨rfl,hu _ _⟩,⟨rfl,trivial⟩,⟨by show some _=some _; rw [hsinc],trivial⟩,trivial⟩,trivial⟩
           | true =>
             have hnx:=hat.put (hsub.1 h1) h2 hg
             have hp:=ZeA s out
             (refine go ?_;repeat' (apply B<;>intro hb<;>try cases hb))
             refine Zr hC (fun i=>i≤posK s out) (fun i=>posK s out-i) 0 (fun i => [(1,.vec (l.map prC) f1),(2,.val (.int .u64 (X:Int))),(3,.val (.int .u64 (R:Int))),(4,.val (.bool add)),(5,.cp (fC .i64 f)),(11,.vec (u6L out) fl),(12,.val (.int .i64 (k:Int))),(13,.val (.int .u64 (s:Int))),(15,.val (.int .i64 (i:Int)))]) (fun _=>[]) (Nat.zero_le _) 0 (Nat.zero_le _)
              ⟨⟨rfl,hpl _⟩,⟨rfl,trivial⟩,⟨rfl,trivial⟩,⟨rfl,trivial⟩,⟨rfl,hpf _⟩,⟨rfl,hu _ _⟩,⟨rfl,trivial⟩,⟨rfl,trivial⟩,⟨rfl,trivial⟩,trivial⟩ trivial ?_
             intro i hi
             have hinc:IntKind.i64.wrap ((i:Int)+1)=((i+1:Nat):Int):=IntWalk.i64_in _ ⟨by omega,by omega⟩
             have hul:=Z8v out
             (repeat'(first|refine Z2 56 ?_|refine Z1 56 ?_|refine st ?_|(apply B<;>intro hb<;>try cases hb)))<;>try refine At.mk ?_
             refine Zi rfl rfl rfl (fun hb=>?_) (fun hb=>?_)
             · have hil : i < out.length := by have := of_decide_eq_true hb; rw [hul] at this; omega
               clear hb
               have hstep:=Z9f hi hil
               have h64:out[i]<18446744073709551616:=by have:=((hat.iff _).1 (List.getElem_mem hil)).1; omega
               (refine go ?_;repeat' (apply B<;>intro hb<;>try cases hb))
               refine Z7 (Zl (xs:=out) (g:=u6C) rfl rfl i rfl hil rfl) rfl rfl ?_
               generalize out[i]=a at hstep h64 ⊢
               (refine go ?_;repeat' (apply B<;>intro hb<;>try cases hb))
               refine Z4 (Z26 a h64) rfl rfl rfl ⟨trivial,trivial⟩ rfl ?_
               (refine go ?_;repeat' (apply B<;>intro hb<;>try cases hb))
               refine Z4 (Z26 s (by omega)) rfl rfl rfl ⟨trivial,trivial⟩ rfl ?_
               (refine go ?_;repeat' (apply B<;>intro hb<;>try cases hb))
               refine Z4 (Z8q (intsN (mem a)) (intsN (mem s)) false false) rfl rfl rfl ⟨Z9 _,Z9 _,trivial⟩ rfl ?_
               rw [Zg9 h64 (by omega)]
               have hd:decide (sgnI (key a) (key s)<0)=decide (i<posK s out):=by rw [decide_eq_decide,Z4z,hstep]
               refine Zh rfl ?_
               refine Z2e rfl rfl rfl hd ?_
               by_cases hlt:i<posK s out
               · rw [decide_eq_true hlt]
                 (refine go ?_;repeat' (apply B<;>intro hb<;>try cases hb))
                 exact⟨i+1,hlt,by omega,⟨⟨rfl,hpl _⟩,⟨rfl,trivial⟩,⟨rfl,trivial⟩,⟨rfl,trivial⟩,⟨rfl,hpf _⟩,⟨rfl,hu _ _⟩,⟨rfl,trivial⟩,⟨rfl,trivial⟩,⟨by show some _=some _; rw [hinc],trivial⟩,trivial⟩,trivial⟩
               · rw [decide_eq_false hlt]
                 have hi':i=posK s out:=by omega
                 subst hi'
                 (refine go ?_;repeat' (apply B<;>intro hb<;>try cases hb))
                 refine Z7 (Z9N (xs:=out) (g:=u6C) rfl (posK s out) out.length rfl (by show some _=some _; rw [List.length_map]) hp (Nat.le_refl _) (fun _=>rfl)) rfl rfl ?_
                 refine Z6 (Z5W (l := [u6C s]) (m:=((out.take out.length).drop (posK s out)).map u6C) (fl:=false) rfl rfl (Z2D [s]) (Z2D _) (by
                  rw [List.length_map,List.length_drop,List.length_take,List.length_singleton];omega)) rfl rfl ?_
                 (repeat'(first|refine Z2 76 ?_|refine Z1 76 ?_|refine st ?_|(apply B<;>intro hb<;>try cases hb)))<;>try refine At.mk ?_
                 refine Z3W rfl rfl rfl ?_
                 (refine go ?_;repeat' (apply B<;>intro hb<;>try cases hb))
                 refine Z7 (Z9N (xs:=out) (g:=u6C) rfl 0 (posK s out) rfl rfl (Nat.zero_le _) hp (fun _=>rfl)) rfl rfl ?_
                 refine Zz (Zy (k:=0) (m:=((out.take (posK s out)).drop 0).map u6C) (fl:=false) (b:=⟨1,[]⟩) rfl rfl rfl (Z2D _) rfl (by
                  rw [List.length_map,List.length_drop,List.length_take,List.length_nil];omega)) rfl rfl ?_
                 (repeat'(first|refine Z2 82 ?_|refine Z1 82 ?_|refine st ?_|(apply B<;>intro hb<;>try cases hb)))<;>try refine At.mk ?_
                 refine Zz (Zy (k:=1) (m := [u6C s]++((out.take out.length).drop (posK s out)).map u6C) (fl:=false) (b:=⟨1,[]++((out.take (posK s out)).drop 0).map u6C⟩) rfl rfl rfl (fun c hc=>by
                  rcases List.mem_append.1 hc with hc|hc
                  · exact Z2D [s] c hc
                  · exact Z2D _ c hc) rfl (by
                  simp only [List.nil_append,List.length_append,List.length_map,List.length_drop,List.length_take,List.length_singleton];omega)) rfl rfl ?_
                 have hfin:([]++((out.take (posK s out)).drop 0).map u6C)++([u6C s]++((out.take out.length).drop (posK s out)).map u6C)=u6L (putK s out):=by
                  unfold putK u6L
                  rw [List.take_length]; simp
                 refine Ze (Zp (k:=82) (id:=2) (b:=⟨1,u6L (putK s out)⟩) rfl (by rw [← hfin]; rfl) (Z1m _)) ?_
                 (refine go ?_;repeat' (apply B<;>intro hb<;>try cases hb))
                 exact⟨(s+1,putK s out,false),⟨hsl,hnx⟩,by show 256-(s+1)<256-s; omega,⟨⟨rfl,hpl _⟩,⟨rfl,trivial⟩,⟨rfl,trivial⟩,⟨rfl,trivial⟩,⟨rfl,hpf _⟩,⟨rfl,hu _ _⟩,⟨rfl,trivial⟩,⟨by show some _=some _; rw [hsinc],trivial⟩,trivial⟩,trivial⟩
             · have hil : ¬ i < out.length := by have := of_decide_eq_false hb; rw [hul] at this; omega
               clear hb
               have hi':i=posK s out:=by omega
               subst hi'
               (refine go ?_;repeat' (apply B<;>intro hb<;>try cases hb))
               refine Z7 (Z9N (xs:=out) (g:=u6C) rfl (posK s out) out.length rfl (by show some _=some _; rw [List.length_map]) hp (Nat.le_refl _) (fun _=>rfl)) rfl rfl ?_
               refine Z6 (Z5W (l := [u6C s]) (m:=((out.take out.length).drop (posK s out)).map u6C) (fl:=false) rfl rfl (Z2D [s]) (Z2D _) (by
                rw [List.length_map,List.length_drop,List.length_take,List.length_singleton];omega)) rfl rfl ?_
               (repeat'(first|refine Z2 76 ?_|refine Z1 76 ?_|refine st ?_|(apply B<;>intro hb<;>try cases hb)))<;>try refine At.mk ?_
               refine Z3W rfl rfl rfl ?_
               (refine go ?_;repeat' (apply B<;>intro hb<;>try cases hb))
               refine Z7 (Z9N (xs:=out) (g:=u6C) rfl 0 (posK s out) rfl rfl (Nat.zero_le _) hp (fun _=>rfl)) rfl rfl ?_
               refine Zz (Zy (k:=0) (m:=((out.take (posK s out)).drop 0).map u6C) (fl:=false) (b:=⟨1,[]⟩) rfl rfl rfl (Z2D _) rfl (by
                rw [List.length_map,List.length_drop,List.length_take,List.length_nil];omega)) rfl rfl ?_
               (repeat'(first|refine Z2 82 ?_|refine Z1 82 ?_|refine st ?_|(apply B<;>intro hb<;>try cases hb)))<;>try refine At.mk ?_
               refine Zz (Zy (k:=1) (m := [u6C s]++((out.take out.length).drop (posK s out)).map u6C) (fl:=false) (b:=⟨1,[]++((out.take (posK s out)).drop 0).map u6C⟩) rfl rfl rfl (fun c hc=>by
                rcases List.mem_append.1 hc with hc|hc
                · exact Z2D [s] c hc
                · exact Z2D _ c hc) rfl (by
                simp only [List.nil_append,List.length_append,List.length_map,List.length_drop,List.length_take,List.length_singleton];omega)) rfl rfl ?_
               have hfin:([]++((out.take (posK s out)).drop 0).map u6C)++([u6C s]++((out.take out.length).drop (posK s out)).map u6C)=u6L (putK s out):=by
                unfold putK u6L
                rw [List.take_length]; simp
               refine Ze (Zp (k:=82) (id:=2) (b:=⟨1,u6L (putK s out)⟩) rfl (by rw [← hfin]; rfl) (Z1m _)) ?_
               (refine go ?_;repeat' (apply B<;>intro hb<;>try cases hb))
               exact⟨(s+1,putK s out,false),⟨hsl,hnx⟩,by show 256-(s+1)<256-s; omega,⟨⟨rfl,hpl _⟩,⟨rfl,trivial⟩,⟨rfl,trivial⟩,⟨rfl,trivial⟩,⟨rfl,hpf _⟩,⟨rfl,hu _ _⟩,⟨rfl,trivial⟩,⟨by show some _=some _; rw [hsinc],trivial⟩,trivial⟩,trivial⟩
         · rw [decide_eq_false h2]
           have hnx:=hat.skip (fun h=>h2 h.2.1)
           (refine go ?_;repeat' (apply B<;>intro hb<;>try cases hb))
           exact⟨(s+1,out,fl),⟨hsl,hnx⟩,by show 256-(s+1)<256-s; omega,⟨⟨rfl,hpl _⟩,⟨rfl,trivial⟩,⟨rfl,trivial⟩,⟨rfl,trivial⟩,⟨rfl,hpf _⟩,⟨rfl,hu _ _⟩,⟨rfl,trivial⟩,⟨by show some _=some _; rw [hsinc],trivial⟩,trivial⟩,trivial⟩
       · rw [decide_eq_false h1]
         have hnx:=hat.skip (fun h=>h1 (hsub.2 h.1))
         (refine go ?_;repeat' (apply B<;>intro hb<;>try cases hb))
         exact⟨(s+1,out,fl),⟨hsl,hnx⟩,by show 256-(s+1)<256-s; omega,⟨⟨rfl,hpl _⟩,⟨rfl,trivial⟩,⟨rfl,trivial⟩,⟨rfl,trivial⟩,⟨rfl,hpf _⟩,⟨rfl,hu _ _⟩,⟨rfl,trivial⟩,⟨by show some _=some _; rw [hsinc],trivial⟩,trivial⟩,trivial⟩
     · have hsl : s = 256 := by have := of_decide_eq_false hb; omega
       subst hsl
       clear hb
       (refine go ?_;repeat' (apply B<;>intro hb<;>try cases hb))
       refine⟨(k+1,out,fl),⟨by omega,fun h=>?_,fun h=>ZcT hR hnb hat h⟩,by show 9-(k+1)<9-k; omega,⟨⟨rfl,hpl _⟩,⟨rfl,trivial⟩,⟨rfl,trivial⟩,⟨rfl,trivial⟩,⟨rfl,hpf _⟩,⟨rfl,hu _ _⟩,⟨by show some _=some _; rw [hkinc],trivial⟩,trivial⟩,trivial⟩
       subst h
       exact hnb.step hR hat
 · have hk9 : k = 9 := by have := of_decide_eq_false hb; omega
   subst hk9
   clear hb
   (refine go ?_;repeat' (apply B<;>intro hb<;>try cases hb))
   refine Z5 rfl (Z1m _) ⟨out,fl,?_,rfl⟩
   by_cases ho:out = []
   · subst ho
     exact ZcU hR (hz.nil rfl)
   · exact hz.some ho
theorem Zhw (f:Fm) (l:List Pr) (X:Nat):gdM f l X false=gdR f l X:=by funext s; rfl
theorem Zh3 (f:Fm) (l:List Pr) (X:Nat):gdM f l X true=gdA f l X:=by funext s; rfl
def resR (out:List Nat) (fl:Bool):PV:=.tup [.vec (u6L out) fl,.val (.int .i64 (if out = [] then 4 else 0))]
set_option maxHeartbeats 2000000 in
theorem Z6W {f:Fm} (m:Made6 f) (l:List Pr) (f1:Bool) (hl:Small l) (X:Nat) (hX:X<256):Spec Tryz.prog 33 [.agg (fC .i64 f),.vec (l.map prC) f1,.val (.int .u64 (X:Int))] fun r=>∃ out fl,RefSm (gdR f l X) X out∧r=resR out fl:=by
 have hs:=Z3u m l f1 hl X X hX hX false
 rw [Zhw] at hs
 refine Z3 ok33 (Nat.le_of_ble_eq_true rfl) fun C hC=>?_
 refine Zm ?_
 refine Za ?_
 refine Z6 rfl rfl rfl ?_
 (repeat'(first|refine Z2 13 ?_|refine Z1 13 ?_|refine st ?_|(apply B<;>intro hb<;>try cases hb)))<;>try refine At.mk ?_
 refine Zo rfl rfl hs ⟨Zk _ _,Zg l,trivial,trivial,trivial,trivial⟩ rfl ?_
 rintro r ⟨out,fl,hr,rfl⟩
 cases out with
 | nil =>
   (refine go ?_;repeat' (apply B<;>intro hb<;>try cases hb))
   exact Z5 rfl ⟨trivial,trivial,trivial⟩ ⟨[],true,hr,rfl⟩
 | cons a t =>
   (repeat'(first|refine Z2 16 ?_|refine Z1 16 ?_|refine st ?_|(apply B<;>intro hb<;>try cases hb)))<;>try refine At.mk ?_
   refine Z7 (Zw (v:=false) rfl (by show (((u6L (a :: t)).length:Int) == 0)=false; rw [Z8v,beq_eq_false_iff_ne,List.length_cons];omega)) rfl rfl ?_
   (refine go ?_;repeat' (apply B<;>intro hb<;>try cases hb))
   exact Z5 rfl ⟨Z1m _,trivial,trivial⟩ ⟨a :: t,fl,hr,rfl⟩
set_option maxHeartbeats 2000000 in
theorem Z5x {f:Fm} (m:Made6 f) (l:List Pr) (f1:Bool) (hl:Small l) (X Y:Nat) (hX:X<256) (hY:Y<256):Spec Tryz.prog 35 [.agg (fC .i64 f),.vec (l.map prC) f1,.val (.int .u64 (X:Int)),.val (.int .u64 (Y:Int))] fun r=>∃ out fl,RefSm (gdA f l X) (minusN Y X) out∧r=resR out fl:=by
 have hAN:=ZJ Y X (by omega) (by omega)
 have hs:=Z3u m l f1 hl X (minusN Y X) hX (Nat.lt_of_le_of_lt Nat.and_le_left hY) true
 rw [Zh3] at hs
 refine Z3 ok35 (Nat.le_of_ble_eq_true rfl) fun C hC=>?_
 refine Zm ?_
 refine Za ?_
 refine Z6 rfl rfl rfl ?_
 (repeat'(first|refine Z2 16 ?_|refine Z1 16 ?_|refine st ?_|(apply B<;>intro hb<;>try cases hb)))<;>try refine At.mk ?_
 refine Zn rfl rfl rfl hAN ?_
 refine Zo rfl rfl hs ⟨Zk _ _,Zg l,trivial,trivial,trivial,trivial⟩ rfl ?_
 rintro r ⟨out,fl,hr,rfl⟩
 cases out with
 | nil =>
   (refine go ?_;repeat' (apply B<;>intro hb<;>try cases hb))
   exact Z5 rfl ⟨trivial,trivial,trivial⟩ ⟨[],true,hr,rfl⟩
 | cons a t =>
   (repeat'(first|refine Z2 20 ?_|refine Z1 20 ?_|refine st ?_|(apply B<;>intro hb<;>try cases hb)))<;>try refine At.mk ?_
   refine Z7 (Zw (v:=false) rfl (by show (((u6L (a :: t)).length:Int) == 0)=false; rw [Z8v,beq_eq_false_iff_ne,List.length_cons];omega)) rfl rfl ?_
   (refine go ?_;repeat' (apply B<;>intro hb<;>try cases hb))
   exact Z5 rfl ⟨Z1m _,trivial,trivial⟩ ⟨a :: t,fl,hr,rfl⟩
section
variable {P:Program} {e:Env} {h:Heap} {n:Nat}
theorem Z4S {k:Nat} {p q:PV} (hk:e k=some p) (hr:RenP (fun i=>i) (fun _=>False) p q):SubA n e h n (e.upd k q) h:=by
 rintro C a w ⟨F,φ,s⟩
 refine⟨F,φ,{ s with env:=fun j r hq=>?_ }⟩
 by_cases hj:j=k
 · subst hj
   rw [Env.upd_same] at hq
   cases hq
   exact⟨(s.env j p hk).1,hr.rep (fun i x hd _=>hd.elim) (s.env j p hk).2⟩
 · rw [Env.upd_ne _ _ hj] at hq
   exact s.env j r hq
end
theorem Z6O (l:List Int) (N:Nat) (h:maskTo (topOf l) l=N) (fl:Bool):Spec Tryz.prog 48 [.vec (nums l) fl] (· = setN N):=h▸Z7P l fl
theorem Zgb:Made6 fmF:=⟨⟨by decide +kernel,by decide +kernel⟩,by decide,by decide,by decide,by decide +kernel⟩
theorem Zgc:Made6 fmG:=⟨⟨by decide +kernel,by decide +kernel⟩,by decide,by decide,by decide,by decide +kernel⟩
theorem Z7B (S:List Nat) (b:Nat) (hb:1≤b∧b<64) (hab:4≠b):Spec Tryz.prog 53 [hierP [] S,.val (.int .i64 4),.val (.int .i64 (b:Int))] fun r=>∃ S',r=.tup [hierP [(4,b)] S',.val (.int .i64 0)]:=by
 refine (Z6D [] S 4 b (by decide) hb hab (fun p hp=>by cases hp) List.nodup_nil (by simp) ⟨fun x=>if x=4 then 0 else 1,fun p hp=>by
  rw [List.nil_append,List.mem_singleton] at hp
  subst hp
  simp [Ne.symm hab]⟩ (by decide)).mono ?_
 rintro r ⟨l',S',h1,h2,rfl⟩
 obtain rfl:=List.perm_singleton.1 h1
 exact⟨S',rfl⟩
theorem ZaJ (S:List Nat):Spec Tryz.prog 53 [hierP [(4,1)] S,.val (.int .i64 4),.val (.int .i64 2)] fun r=>∃ S',r=.tup [hierP [(4,1),(4,2)] S',.val (.int .i64 0)]:=by
 refine (Z6D [(4,1)] S 4 2 (by decide) (by decide) (by decide) (fun p hp=>ZeQ p (by rw [List.mem_singleton] at hp; subst hp; simp)) (by simp) (by simp) ⟨fun x=>if x=4 then 0 else 1,fun p hp=>by
  rw [List.singleton_append] at hp
  simp only [List.mem_cons,List.not_mem_nil,or_false] at hp
  rcases hp with rfl|rfl<;>simp⟩ (by decide)).mono ?_
 rintro r ⟨l',S',h1,h2,rfl⟩
 rw [List.singleton_append] at h1
 have hl:=h1.length_eq
 match l',h1,h2,hl with
 | [x, y], h1, h2, _ =>
   have hx:x∈[((4,1):Pr),(4,2)]:=h1.mem_iff.1 (by simp)
   have hy:y∈[((4,1):Pr),(4,2)]:=h1.mem_iff.1 (by simp)
   have hs:=(List.pairwise_cons.1 h2).1 y (by simp)
   simp only [List.mem_cons,List.not_mem_nil,or_false] at hx hy
   rcases hx with rfl|rfl<;>rcases hy with rfl|rfl
   · simp at hs
   · exact⟨S',rfl⟩
   · simp at hs
   · simp at hs
theorem Zgd {r:PV} (hr:RepR fmF 24 (gdR fmF [(4,1),(4,2)] 24) r):∃ fl,r=.tup [.vec [stC 16] fl,.val (.int .i64 0)]:=by
 cases hr with
 | bad h=>exact absurd ZeO h
 | sm _ hs =>
   cases hs with
   | many h=>exact absurd h (by decide +kernel)
   | found _ out fl hm hso =>
     obtain rfl:=Z4Q hm Zhp (fun s h=>by rcases Zgr h with rfl|rfl|rfl|rfl<;>decide) hso Zhr
     exact⟨fl,rfl⟩
theorem Zge {r:PV} (hr:RepR fmG (minusN 20 10) (gdA fmG [(4,2)] 10) r):∃ fl,r=.tup [.vec [stC 4,stC 16] fl,.val (.int .i64 0)]:=by
 have e:minusN 20 10=20:=by decide +kernel
 rw [e] at hr
 cases hr with
 | bad h=>exact absurd ZeP h
 | sm _ hs =>
   cases hs with
   | many h=>exact absurd h (by decide +kernel)
   | found _ out fl hm hso =>
     obtain rfl:=Z4Q hm Zhq (fun s h=>by rcases ZbJ h with rfl|rfl|rfl|rfl<;>decide) hso Zhs
     exact⟨fl,rfl⟩
def boxF:List PV := [.val (.int .u8 11),.val (.int .i64 0),.vec [] true,.vec [[.val (.int .u8 5),.val (.int .i64 0),.vec (nums [1,2,3]) true,.vec [] true],[.val (.int .u8 1),.val (.int .i64 1),.vec [] true,.vec [] true]] true]
def boxG:List PV := [.val (.int .u8 10),.val (.int .i64 0),.vec [] true,.vec [[.val (.int .u8 4),.val (.int .i64 0),.vec (nums [1]) true,.vec [] true],[.val (.int .u8 4),.val (.int .i64 0),.vec (nums [2]) true,.vec [] true]] true]
theorem ZbK:(PV.cp boxF).low=.cp (fC .u8 fmF):=rfl
theorem ZbL:(PV.cp boxG).low=.cp (fC .u8 fmG):=rfl
theorem ZeR:pureL boxF:=⟨trivial,trivial,trivial,⟨⟨trivial,trivial,Z9 _,trivial,trivial⟩,⟨trivial,trivial,trivial,trivial,trivial⟩,trivial⟩,trivial⟩
theorem ZeS:pureL boxG:=⟨trivial,trivial,trivial,⟨⟨trivial,trivial,Z9 _,trivial,trivial⟩,⟨trivial,trivial,Z9 _,trivial,trivial⟩,trivial⟩,trivial⟩
theorem ZhE:RenP (fun i=>i) (fun _=>False) (.cp boxF) (.cp (fC .u8 fmF)):=ZbK▸RenP.low (.cp boxF) (by rw [ZbK]; exact Zk _ _)
theorem ZhF:RenP (fun i=>i) (fun _=>False) (.cp boxG) (.cp (fC .u8 fmG)):=ZbL▸RenP.low (.cp boxG) (by rw [ZbL]; exact Zk _ _)
set_option maxRecDepth 100000 in
set_option maxHeartbeats 16000000 in
theorem Z3v:Spec Tryz.prog 12 [] (· = .val (.bool true)):=by
 have hpf:=Zk .u8 fmF
 have hpg:=Zk .u8 fmG
 refine Z3 ok12 (Nat.le_of_ble_eq_true rfl) fun C hC=>?_
 (repeat'(first|refine Z2 22 ?_|refine Z1 22 ?_|refine st ?_|(apply B<;>intro hb<;>try cases hb)))<;>try refine At.mk ?_
 refine Ze (ZU (k:=1) (l:=boxF) rfl rfl ZeR) ?_
 refine Ze (Z4S (k:=1) rfl ZhE) ?_
 (repeat'(first|refine Z2 29 ?_|refine Z1 29 ?_|refine st ?_|(apply B<;>intro hb<;>try cases hb)))<;>try refine At.mk ?_
 refine Ze (ZU (k:=2) (l:=boxG) rfl rfl ZeS) ?_
 refine Ze (Z4S (k:=2) rfl ZhF) ?_
 refine Zo rfl rfl Z3r trivial rfl ?_
 rintro r ⟨S0,rfl⟩
 (repeat'(first|refine Z2 30 ?_|refine Z1 30 ?_|refine st ?_|(apply B<;>intro hb<;>try cases hb)))<;>try refine At.mk ?_
 refine Zo rfl rfl (Z7B S0 1 (by decide) (by decide)) ⟨Zv _ _,trivial,trivial,trivial⟩ rfl ?_
 rintro r ⟨S1,rfl⟩
 (repeat'(first|refine Z2 35 ?_|refine Z1 35 ?_|refine st ?_|(apply B<;>intro hb<;>try cases hb)))<;>try refine At.mk ?_
 refine Zo rfl rfl (ZaJ S1) ⟨Zv _ _,trivial,trivial,trivial⟩ rfl ?_
 rintro r ⟨S2,rfl⟩
 (repeat'(first|refine Z2 39 ?_|refine Z1 39 ?_|refine st ?_|(apply B<;>intro hb<;>try cases hb)))<;>try refine At.mk ?_
 refine Zo rfl rfl Z3r trivial rfl ?_
 rintro r ⟨S3,rfl⟩
 (repeat'(first|refine Z2 40 ?_|refine Z1 40 ?_|refine st ?_|(apply B<;>intro hb<;>try cases hb)))<;>try refine At.mk ?_
 refine Zo rfl rfl (Z7B S3 2 (by decide) (by decide)) ⟨Zv _ _,trivial,trivial,trivial⟩ rfl ?_
 rintro r ⟨S4,rfl⟩
 (repeat'(first|refine Z2 56 ?_|refine Z1 56 ?_|refine st ?_|(apply B<;>intro hb<;>try cases hb)))<;>try refine At.mk ?_
 refine Zt (Z6O [1,2,3] 14 (by decide +kernel) true) rfl rfl rfl ⟨Z9 _,trivial⟩ ?_
 (repeat'(first|refine Z2 57 ?_|refine Z1 57 ?_|refine st ?_|(apply B<;>intro hb<;>try cases hb)))<;>try refine At.mk ?_
 refine Zt (ZbD fmF (by decide) (by decide) 14 (by decide)) rfl rfl rfl ⟨hpf,Z0 _,trivial⟩ ?_
 rw [Zhn]
 (repeat'(first|refine Z2 63 ?_|refine Z1 63 ?_|refine st ?_|(apply B<;>intro hb<;>try cases hb)))<;>try refine At.mk ?_
 refine Zt (Z6O [1,3] 10 (by decide +kernel) true) rfl rfl rfl ⟨Z9 _,trivial⟩ ?_
 (repeat'(first|refine Z2 64 ?_|refine Z1 64 ?_|refine st ?_|(apply B<;>intro hb<;>try cases hb)))<;>try refine At.mk ?_
 refine Zt (ZbD fmG (by decide) (by decide) 10 (by decide)) rfl rfl rfl ⟨hpg,Z0 _,trivial⟩ ?_
 rw [Zho]
 (repeat'(first|refine Z2 70 ?_|refine Z1 70 ?_|refine st ?_|(apply B<;>intro hb<;>try cases hb)))<;>try refine At.mk ?_
 refine Zt (Z6O [3,4] 24 (by decide +kernel) true) rfl rfl rfl ⟨Z9 _,trivial⟩ ?_
 (repeat'(first|refine Z2 72 ?_|refine Z1 72 ?_|refine st ?_|(apply B<;>intro hb<;>try cases hb)))<;>try refine At.mk ?_
 refine Z5V rfl rfl (.inl rfl) (Z33 Zgb.holdsW (by decide) (by decide) [(4,1),(4,2)] S2 24 (by decide) (by decide)) ⟨hpf,Z0 _,Zv _ _,trivial⟩ ?_
 intro r hr
 obtain⟨fa,rfl⟩:∃ fl,r=.tup [.vec [stC 16] fl,.val (.int .i64 0)]:=Zgd hr
 (repeat'(first|refine Z2 78 ?_|refine Z1 78 ?_|refine st ?_|(apply B<;>intro hb<;>try cases hb)))<;>try refine At.mk ?_
 refine Zt (Z6O [1,3] 10 (by decide +kernel) true) rfl rfl rfl ⟨Z9 _,trivial⟩ ?_
 (repeat'(first|refine Z2 80 ?_|refine Z1 80 ?_|refine st ?_|(apply B<;>intro hb<;>try cases hb)))<;>try refine At.mk ?_
 refine Zt (Z6O [2,4] 20 (by decide +kernel) true) rfl rfl rfl ⟨Z9 _,trivial⟩ ?_
 (repeat'(first|refine Z2 82 ?_|refine Z1 82 ?_|refine st ?_|(apply B<;>intro hb<;>try cases hb)))<;>try refine At.mk ?_
 refine Z5V rfl rfl (.inl rfl) (Z2l Zgc.holdsW (by decide) (by decide) [(4,2)] S4 10 20 (by decide) (by decide) (by decide)) ⟨hpg,Z0 _,Z0 _,Zv _ _,trivial⟩ ?_
 intro r hr
 obtain⟨fb,rfl⟩:∃ fl,r=.tup [.vec [stC 4,stC 16] fl,.val (.int .i64 0)]:=Zge hr
 (repeat'(first|refine Z2 99 ?_|refine Z1 99 ?_|refine st ?_|(apply B<;>intro hb<;>try cases hb)))<;>try refine At.mk ?_
 refine Zh rfl ?_
 refine Z4 (ZcY (6,0) ⟨by decide,by decide⟩) rfl rfl rfl ⟨Z5I _,trivial⟩ rfl ?_
 rw [Zh1]
 (repeat'(first|refine Z2 104 ?_|refine Z1 104 ?_|refine st ?_|(apply B<;>intro hb<;>try cases hb)))<;>try refine At.mk ?_
 refine Zh rfl ?_
 refine Z4 (Zd0 namesNil (2,4) ⟨by decide,by decide⟩) rfl rfl rfl ⟨Z5I _,trivial,trivial⟩ rfl ?_
 rw [Zh2]
 (repeat'(first|refine Z2 116 ?_|refine Z1 116 ?_|refine st ?_|(apply B<;>intro hb<;>try cases hb)))<;>try refine At.mk ?_
 refine Zh rfl ?_
 refine Z4 (Z5c 16 (by decide)) rfl rfl rfl ⟨Z0 _,trivial⟩ rfl ?_
 rw [Zgs]
 (repeat'(first|refine Z2 128 ?_|refine Z1 128 ?_|refine st ?_|(apply B<;>intro hb<;>try cases hb)))<;>try refine At.mk ?_
 refine Zh rfl ?_
 refine Z4 (Z5c 4 (by decide)) rfl rfl rfl ⟨Z0 _,trivial⟩ rfl ?_
 rw [Zht]
 (repeat'(first|refine Z2 135 ?_|refine Z1 135 ?_|refine st ?_|(apply B<;>intro hb<;>try cases hb)))<;>try refine At.mk ?_
 refine Zh rfl ?_
 refine Z4 (Z5c 16 (by decide)) rfl rfl rfl ⟨Z0 _,trivial⟩ rfl ?_
 rw [Zgs]
 (refine go ?_;repeat' (apply B<;>intro hb<;>try cases hb))
 all_goals first|exact Z5 rfl trivial rfl|(exfalso; simp_all)
structure MadeW (f:Fm):Prop where
 wf:Wf f
 ty:typeM f.op=1
 depth:f.depth≤4
 size:f.size≤15
 i6:in6 1 f=true
theorem MadeW.six {f:Fm} (m:MadeW f):Made6 f:=⟨m.wf,m.ty,by have:=m.depth; omega,by have:=m.size; omega,m.i6⟩
theorem MadeW.d1000 {f:Fm} (m:MadeW f):f.depth≤1000:=by have:=m.depth; omega
theorem MadeW.sbig {f:Fm} (m:MadeW f):f.size≤1099511627776:=by have:=m.size; omega
theorem Zh4 (l:List Nat):bys l=l.map fun (x:Nat) => [PV.val (.int .u8 (x:Int))]:=rfl
theorem Z34 (l:List Nat) (hl:Bytes l) (fl:Bool):Spec Tryz.prog 14 [.vec (bys l) fl] fun r=>∃ f,MadeW f∧r=.agg (fC .i64 f):=by
 have hnl:(bys l).length=l.length:=by simp [bys]
 have hmn:(if (24:Int)<((bys l).length:Int) then (24:Int) else ((bys l).length:Int))=((min l.length 24:Nat):Int):=by rw [hnl]; split<;>omega
 refine Z3 ok14 (Nat.le_of_ble_eq_true rfl) fun C hC=>?_
 (refine go ?_;repeat' (apply B<;>intro hb<;>try cases hb))
 refine Z7 (Z9N (xs:=l) (g:=fun (x:Nat) => [PV.val (.int .u8 (x:Int))]) rfl 0 (min l.length 24) rfl (by show some _=some _; rw [← hmn]) (Nat.zero_le _) (Nat.min_le_left _ _) (fun _=>rfl)) rfl rfl ?_
 rw [← Zh4,List.drop_zero]
 have hl2:Bytes (l.take (min l.length 24)):=fun x hx=>hl x (List.mem_of_mem_take hx)
 refine Zo rfl rfl (Zak _ hl2 false 1) ⟨Z4E _,trivial,trivial,trivial⟩ rfl ?_
 rintro r ⟨f,wf,tf,df,sf,rfl,i6⟩
 (refine go ?_;repeat' (apply B<;>intro hb<;>try cases hb))
 exact Z5 rfl (Zk _ _) ⟨f,⟨wf,tf,df,sf,i6⟩,rfl⟩
theorem Z3w {f:Fm} (m:MadeW f):Spec Tryz.prog 13 [.agg (fC .i64 f)] (· = .agg (fC .u8 f)):=Z9n 4 f (m.wf.nice 4 f m.depth)
theorem Z3V:∀ {l m:List Pr},SortedP l→SortedP m→l.Perm m→l=m
 | [],m,_,_,h=>(List.Perm.nil_eq h)
 | a :: l,[],_,_,h=>by have:=h.length_eq; simp at this
 | a :: l, b :: m, h1, h2, h => by
   have h1':=List.pairwise_cons.1 h1
   have h2':=List.pairwise_cons.1 h2
   have hab:a=b:=by
    rcases List.mem_cons.1 (h.mem_iff.1 (List.mem_cons_self (a:=a) (l:=l))) with e|ha
    · exact e
    rcases List.mem_cons.1 (h.mem_iff.2 (List.mem_cons_self (a:=b) (l:=m))) with e|hb
    · exact e.symm
    have x1:=h1'.1 b hb
    have x2:=h2'.1 a ha
    omega
   subst hab
   rw [Z3V h1'.2 h2'.2 (List.Perm.cons_inv h)]
theorem SortedP.take {l:List Pr} (h:SortedP l) (i:Nat):SortedP (l.take i):=List.Pairwise.sublist (List.take_sublist i l) h
theorem SortedP.nodup {l:List Pr} (h:SortedP l):l.Nodup:=List.Pairwise.imp (fun {a b} h e=>by subst e;omega) h
theorem Zd1 {l:List Pr} (h:GoodL l):l.length≤4096:=by
 have hn:(l.map fun p=>p.1*64+p.2).Nodup:=by
  rw [List.nodup_iff_pairwise_ne,List.pairwise_map]
  refine List.Pairwise.imp_of_mem (fun {a b} ha hb hab=>?_) h.asc
  have h1:=h.small a ha
  have h2:=h.small b hb
  show a.1*64+a.2≠b.1*64+b.2
  show a.1*64+a.2≠b.1*64+b.2
  omega
 have:=Z3L 4096 _ hn fun x hx=>by
  obtain⟨p,hp,rfl⟩:=List.mem_map.1 hx
  have:=h.small p hp
  show p.1*64+p.2<4096
  omega
 rwa [List.length_map] at this
set_option maxHeartbeats 4000000 in
theorem Z5d (x:Nat) (hx:x<18446744073709551616):Spec Tryz.prog 15 [.val (.int .u64 (x:Int))] fun r=>∃ l fl S,GoodL l∧r=.tup [hierP l S,.vec (l.map prC) fl]:=by
 refine Z3 ok15 (Nat.le_of_ble_eq_true rfl) fun C hC=>?_
 (repeat'(first|refine Z2 11 ?_|refine Z1 11 ?_|refine st ?_|(apply B<;>intro hb<;>try cases hb)))<;>try refine At.mk ?_
 refine Zo rfl rfl (Zay x hx) ⟨trivial,trivial⟩ rfl ?_
 rintro r ⟨l,fl,hgl,rfl⟩
 have hll:=Zd1 hgl
 have hnl:(l.map prC).length=l.length:=by simp
 have hpl:∀ D,innLL D (l.map prC):=fun D=>Zd (fun _ h=>h.elim) _ (Zg l)
 have hhp:∀ D l S,(hierP l S).inn D:=fun D l S=>PV.inn_mono (fun _ h=>h.elim) _ (Zv l S)
 (repeat'(first|refine Z2 12 ?_|refine Z1 12 ?_|refine st ?_|(apply B<;>intro hb<;>try cases hb)))<;>try refine At.mk ?_
 refine Zo rfl rfl Z3r trivial rfl ?_
 rintro r ⟨S0,rfl⟩
 (refine go ?_;repeat' (apply B<;>intro hb<;>try cases hb))
 refine Zr hC (fun (z:Nat×List Nat)=>z.1≤l.length) (fun z=>l.length-z.1) 0 (fun z => [(2,.val (.pointer none)),(3,.vec [] true),(4,.vec (l.map prC) fl),(5,hierP (l.take z.1) z.2),(13,.vec (l.map prC) fl),(14,.val (.int .i64 l.length)),(15,.val (.int .i64 (z.1:Int)))])
  (fun _=>[]) (Nat.zero_le _) (0,S0) (Nat.zero_le _)
  ⟨⟨rfl,trivial⟩,⟨rfl,trivial⟩,⟨rfl,hpl _⟩,⟨rfl,hhp _ _ _⟩,⟨rfl,hpl _⟩,⟨by rw [← hnl]; rfl,trivial⟩,⟨rfl,trivial⟩,trivial⟩ trivial ?_
 rintro⟨i,S⟩ hi
 simp only at hi
 have hinc:IntKind.i64.wrap ((i:Int)+1)=((i+1:Nat):Int):=IntWalk.i64_in _ ⟨by omega,by omega⟩
 (repeat'(first|refine Z2 16 ?_|refine Z1 16 ?_|refine st ?_|(apply B<;>intro hb<;>try cases hb)))<;>try refine At.mk ?_
 refine Zi rfl rfl rfl (fun hb=>?_) (fun hb=>?_)
 · have hil : i < l.length := by have := of_decide_eq_true hb; omega
   have htk:=Z5b hil
   have hro:=hgl.role _ (List.getElem_mem hil)
   have hsub:∀ p∈l.take i ++ [l[i]],p∈l:=fun p hp=>by rw [← htk] at hp; exact List.mem_of_mem_take hp
   have hno:l[i] ∉ l.take i:=fun h=>by
    have hnd:=SortedP.nodup (SortedP.take hgl.asc (i+1))
    rw [htk,List.nodup_append] at hnd
    exact hnd.2.2 _ h _ (List.mem_singleton.2 rfl) rfl
   clear hb
   (refine go ?_;repeat' (apply B<;>intro hb<;>try cases hb))
   refine Z7 (Zl (xs:=l) (g:=prC) rfl rfl i rfl hil rfl) rfl rfl ?_
   generalize l[i]=p at htk hro hsub hno ⊢
   have hls:=Z6D (l.take i) S p.1 p.2 (by omega) (by omega) hro.2.2.2.2 (fun q hq=>hgl.small q (List.mem_of_mem_take hq)) (SortedP.nodup (SortedP.take hgl.asc i)) hno (hgl.acy.sub hsub) (by rw [List.length_take];omega)
   (repeat'(first|refine Z2 25 ?_|refine Z1 25 ?_|refine st ?_|(apply B<;>intro hb<;>try cases hb)))<;>try refine At.mk ?_
   refine Zo rfl rfl hls ⟨Zv _ _,trivial,trivial,trivial⟩ rfl ?_
   rintro r ⟨l',S',hpm,hst,rfl⟩
   have hle:l'=l.take (i+1):=by
    have hx1:l'.Perm (l.take (i+1)):=by rw [htk]; exact hpm
    exact Z3V hst (SortedP.take hgl.asc (i+1)) hx1
   subst hle
   (refine go ?_;repeat' (apply B<;>intro hb<;>try cases hb))
   exact⟨(i+1,S'),hil,by simp only; omega,⟨⟨rfl,trivial⟩,⟨rfl,trivial⟩,⟨rfl,hpl _⟩,⟨rfl,hhp _ _ _⟩,⟨rfl,hpl _⟩,⟨rfl,trivial⟩,⟨by show some _=some _; rw [hinc],trivial⟩,trivial⟩,trivial⟩
 · have hil : i = l.length := by have := of_decide_eq_false hb; omega
   subst hil
   clear hb hinc hi
   rw [List.take_length]
   (refine go ?_;repeat' (apply B<;>intro hb<;>try cases hb))
   exact Z5 rfl ⟨Zv l S,Zg l,trivial⟩ ⟨l,fl,S,hgl,rfl⟩
theorem Z1a (l:List Nat):pureLL (seL l):=Z1Q (enc:=stC) (fun s=>⟨Zb _,trivial⟩) l
theorem Zd2 (N:Nat) (hN:N<18446744073709551616):Spec Tryz.prog 81 [setN N,setN N] (· = .val (.bool true)):=by
 have h:=Za1 N N hN hN
 rwa [decide_eq_true rfl] at h
theorem ZaK (s:Nat) (hs:s<18446744073709551616):Spec Tryz.prog 80 [setN s,.val (.int .u64 (s:Int))] (· = .val (.bool true)):=by
 refine Z3 ok80 (Nat.le_of_ble_eq_true rfl) fun C hC=>?_
 refine Zm ?_
 refine Za ?_
 refine Z6 rfl rfl rfl ?_
 (repeat'(first|refine Z2 7 ?_|refine Z1 7 ?_|refine st ?_|(apply B<;>intro hb<;>try cases hb)))<;>try refine At.mk ?_
 refine Zt (Z2c s hs) rfl rfl rfl ⟨trivial,trivial⟩ ?_
 (repeat'(first|refine Z2 8 ?_|refine Z1 8 ?_|refine st ?_|(apply B<;>intro hb<;>try cases hb)))<;>try refine At.mk ?_
 refine Zt (Zd2 s hs) rfl rfl rfl ⟨Z0 _,Z0 _,trivial⟩ ?_
 (refine go ?_;repeat' (apply B<;>intro hb<;>try cases hb))
 exact Z5 rfl trivial rfl
set_option maxHeartbeats 2000000 in
theorem Z6X (out:List Nat) (f1 f2:Bool) (hs:∀ s∈out,s<18446744073709551616):Spec Tryz.prog 79 [.vec (out.map stC) f1,.vec (u6L out) f2,.fn 80 []] (· = .val (.bool true)):=by
 have hla:(out.map stC).length=out.length:=by simp
 have hlb:(u6L out).length=out.length:=by simp [u6L]
 refine Z3 ok79 (Nat.le_of_ble_eq_true rfl) fun C hC=>?_
 refine Z37 (k:=0) rfl fun hmax=>?_
 have hlm:out.length≤maxVec:=by rw [hla] at hmax; exact hmax
 (repeat'(first|refine Z2 14 ?_|refine Z1 14 ?_|refine st ?_|(apply B<;>intro hb<;>try cases hb)))<;>try refine At.mk ?_
 refine Z7 (Zw (v:=false) rfl (by rw [hla,hlb]; simp)) rfl rfl ?_
 (refine go ?_;repeat' (apply B<;>intro hb<;>try cases hb))
 refine Zr hC (fun i=>i≤out.length) (fun i=>out.length-i) 0 (fun i => [(1,.vec (u6L out) f2),(2,.fn 80 []),(15,.vec (out.map stC) f1),(16,.val (.int .i64 (out.length:Int))),(17,.val (.int .i64 (i:Int)))]) (fun _=>[]) (Nat.le_refl _) 0 (Nat.zero_le _)
  ⟨⟨rfl,Zd (fun _ h=>h.elim) _ (Z1m _)⟩,⟨rfl,trivial⟩,⟨rfl,Zd (fun _ h=>h.elim) _ (Z1a _)⟩,⟨by rw [← hla]; rfl,trivial⟩,⟨rfl,trivial⟩,trivial⟩ trivial ?_
 rintro i hi
 have hinc:IntKind.i64.wrap ((i:Int)+1)=((i+1:Nat):Int):=IntWalk.i64_in _ ⟨by omega,by simp only [maxVec] at hlm; omega⟩
 (repeat'(first|refine Z2 18 ?_|refine Z1 18 ?_|refine st ?_|(apply B<;>intro hb<;>try cases hb)))<;>try refine At.mk ?_
 refine Zi rfl rfl rfl (fun hb=>?_) (fun hb=>?_)
 · have hil : i < out.length := by have := of_decide_eq_true hb; omega
   have hso:=ZaK out[i] (hs _ (List.getElem_mem hil))
   clear hb
   (repeat'(first|refine Z2 20 ?_|refine Z1 20 ?_|refine st ?_|(apply B<;>intro hb<;>try cases hb)))<;>try refine At.mk ?_
   refine Z7 (Zl (xs:=out) (g:=stC) rfl rfl i rfl hil rfl) rfl rfl ?_
   (repeat'(first|refine Z2 24 ?_|refine Z1 24 ?_|refine st ?_|(apply B<;>intro hb<;>try cases hb)))<;>try refine At.mk ?_
   refine Z7 (Zl (xs:=out) (g:=u6C) rfl rfl i rfl hil rfl) rfl rfl ?_
   generalize out[i]=s at hso ⊢
   (repeat'(first|refine Z2 29 ?_|refine Z1 29 ?_|refine st ?_|(apply B<;>intro hb<;>try cases hb)))<;>try refine At.mk ?_
   refine Z4 hso rfl rfl rfl ⟨Z0 _,trivial,trivial⟩ rfl ?_
   (refine go ?_;repeat' (apply B<;>intro hb<;>try cases hb))
   exact⟨i+1,hil,by omega,⟨⟨rfl,Zd (fun _ h=>h.elim) _ (Z1m _)⟩,⟨rfl,trivial⟩,⟨rfl,Zd (fun _ h=>h.elim) _ (Z1a _)⟩,⟨rfl,trivial⟩,⟨by show some _=some _; rw [hinc],trivial⟩,trivial⟩,trivial⟩
 · have hil : i = out.length := by have := of_decide_eq_false hb; omega
   subst hil
   clear hb
   (refine go ?_;repeat' (apply B<;>intro hb<;>try cases hb))
   exact Z5 rfl trivial rfl
theorem Z6P (out:List Nat) (f1 f2:Bool) (hs:∀ s∈out,s<18446744073709551616):Spec Tryz.prog 34 [.vec (seL out) f1,.vec (u6L out) f2] (· = .val (.bool true)):=by
 refine Z3 ok34 (Nat.le_of_ble_eq_true rfl) fun C hC=>?_
 (repeat'(first|refine Z2 7 ?_|refine Z1 7 ?_|refine st ?_|(apply B<;>intro hb<;>try cases hb)))<;>try refine At.mk ?_
 refine Z4 (Z6X out f1 f2 hs) rfl rfl rfl ⟨Z1a _,Z1m _,trivial,trivial⟩ rfl ?_
 (refine go ?_;repeat' (apply B<;>intro hb<;>try cases hb))
 exact Z5 rfl trivial rfl
theorem Z7C {P:Program} {e:Env} {h:Heap} {n:Nat} {d:Option Nat} {os:List AOper} {K:Nat→Env→Heap→Prop} {f:Operand} {args:List Operand} {g:FuncId} {caps xs args':List PV} {R:PV→Prop} (hs:Spec P g args' R) (hf:ev e f=some (.fn g caps)) (ha:evs e args=some xs) (ha':xs++caps=args') (hp:pureL args') (hz:h n=none) (hk:∀ r,R r→opsK P os n (updO e d r) h K):opsK P (⟨d,.call f args,none⟩ :: os) n e h K:=by
 subst ha'
 exact Zo hf ha hs hp hz hk
theorem Zh5 {E:Nat} (h:E<256):popK 64 E≤12:=by
 have key:∀ E,E<256→popK 64 E≤12:=by decide +kernel
 exact key E h
theorem low126 (s:Nat):s &&& 126<128:=Nat.lt_of_le_of_lt Nat.and_le_right (by decide)
theorem zero126 (s:Nat):(s &&& 126).testBit 0=false:=by rw [Nat.testBit_and]; simp
theorem Z9o (a b:Nat):minusN a b≤a:=Nat.and_le_left
theorem ZaL {E s:Nat} (hE:E<18446744073709551616) (h:s ||| E=E):s<18446744073709551616:=Nat.lt_of_le_of_lt (by rw [← h]; exact Nat.left_le_or) hE
theorem ZbM {E:Nat} (hE:E<18446744073709551616) {good:Nat→Bool} {out:List Nat} (h:Mins (fun s=>s ||| E=E) good out):∀ s∈out,s<18446744073709551616:=fun s hs=>ZaL hE ((h.iff s).1 hs).1
theorem Z8w {f:Fm} {E:Nat} {good:Nat→Bool} {r:PV} (hc:checkM f=0) (hE:E<256) (h:RepR f E good r):∃ out fl,Mins (fun s=>s ||| E=E) good out∧SortedK out∧r=.tup [.vec (seL out) fl,.val (.int .i64 (if out = [] then 4 else 0))]:=by
 cases h with
 | bad h=>exact absurd hc h
 | sm _ hs =>
   cases hs with
   | many h=>exact absurd h (by have:=Zh5 hE;omega)
   | found _ out fl hm hso=>exact⟨out,fl,hm,hso,rfl⟩
theorem Z5O (out:List Nat):(if out = [] then (4:Int) else 0)=4 ∨ (if out = [] then (4:Int) else 0)=0:=by
 by_cases h:out = []
 · rw [if_pos h]; exact .inl rfl
 · rw [if_neg h]; exact .inr rfl
set_option maxHeartbeats 8000000 in
theorem Z4T (p:List Nat) (x s:Nat) (fl:Bool) (hp:Bytes p) (hx:x<18446744073709551616) (hs:s<18446744073709551616):Spec Tryz.prog 5 [.vec (bys p) fl,.val (.int .u64 (x:Int)),.val (.int .u64 (s:Int))] (· = .val (.bool true)):=by
 have h0:bits .and .u64 (s:Int) 126=((s &&& 126:Nat):Int):=Zg0 s 126 hs (by decide)
 have hE:=low126 s
 refine Z3 ok5 (Nat.le_of_ble_eq_true rfl) fun C hC=>?_
 (repeat'(first|refine Z2 14 ?_|refine Z1 14 ?_|refine st ?_|(apply B<;>intro hb<;>try cases hb)))<;>try refine At.mk ?_
 refine Z4 Z3v rfl rfl rfl trivial rfl ?_
 (repeat'(first|refine Z2 17 ?_|refine Z1 17 ?_|refine st ?_|(apply B<;>intro hb<;>try cases hb)))<;>try refine At.mk ?_
 refine Zo rfl rfl (Z34 p hp fl) ⟨Z4E _,trivial⟩ rfl ?_
 rintro r ⟨f,m,rfl⟩
 have hpf:=Zk .i64 f
 have hpg:=Zk .u8 f
 (repeat'(first|refine Z2 20 ?_|refine Z1 20 ?_|refine st ?_|(apply B<;>intro hb<;>try cases hb)))<;>try refine At.mk ?_
 refine Zo rfl rfl (Z5d x hx) ⟨trivial,trivial⟩ rfl ?_
 rintro r ⟨l,fl2,S,hgl,rfl⟩
 have hpl:=Zg l
 (repeat'(first|refine Z2 25 ?_|refine Z1 25 ?_|refine st ?_|(apply B<;>intro hb<;>try cases hb)))<;>try refine At.mk ?_
 refine Z4 (Z3w m) rfl rfl rfl ⟨hpf,trivial⟩ rfl ?_
 (repeat'(first|refine Z2 28 ?_|refine Z1 28 ?_|refine st ?_|(apply B<;>intro hb<;>try cases hb)))<;>try refine At.mk ?_
 refine Z4 (Z2c (s &&& 126) (by omega)) rfl rfl (by rw [← h0]; rfl) ⟨trivial,trivial⟩ rfl ?_
 (repeat'(first|refine Z2 30 ?_|refine Z1 30 ?_|refine st ?_|(apply B<;>intro hb<;>try cases hb)))<;>try refine At.mk ?_
 refine Zo rfl rfl (Z33 m.six.holdsW m.d1000 m.sbig l S (s &&& 126) (by omega) (zero126 s)) ⟨hpg,Z0 _,Zv _ _,trivial⟩ rfl ?_
 intro r hr
 obtain⟨out,f3,hm,hso,rfl⟩:=Z8w m.six.check (by omega) hr
 (repeat'(first|refine Z2 38 ?_|refine Z1 38 ?_|refine st ?_|(apply B<;>intro hb<;>try cases hb)))<;>try refine At.mk ?_
 refine Z7C (Z6W m.six l fl2 hgl.small (s &&& 126) (by omega)) rfl rfl (by rw [← h0]; rfl) ⟨hpf,hpl,trivial,trivial⟩ rfl ?_
 rintro r ⟨out2,f4,hR,rfl⟩
 obtain rfl:=Z4Q hm hR.mins (fun s h=>ZaL (by omega) h) hso hR.so
 have hse:=Z6P out f3 f4 (ZbM (by omega) hm)
 unfold resR
 rcases Z5O out with e|e
 all_goals
  rw [e]
  (repeat'(first|refine Z2 47 ?_|refine Z1 47 ?_|refine st ?_|(apply B<;>intro hb<;>try cases hb)))<;>try refine At.mk ?_
  refine Zh rfl ?_
  refine Z4 hse rfl rfl rfl ⟨Z1a _,Z1m _,trivial⟩ rfl ?_
  (refine go ?_;repeat' (apply B<;>intro hb<;>try cases hb))
  exact Z5 rfl trivial rfl
set_option maxHeartbeats 8000000 in
theorem Z3N (p:List Nat) (x:Nat) (y:Nat×Nat) (fl:Bool) (hp:Bytes p) (hx:x<18446744073709551616) (hy:y.1<256∧y.2<256):Spec Tryz.prog 6 [.vec (bys p) fl,.val (.int .u64 (x:Int)),.agg [.val (.int .u8 (y.1:Int)),.val (.int .u8 (y.2:Int))]] (· = .val (.bool true)):=by
 obtain⟨a,b⟩:=y
 obtain⟨ha,hb⟩:a<256∧b<256:=hy
 dsimp only
 have hA:=low126 a
 have hB:=low126 b
 have w1:IntKind.u64.wrap (bits .and .u8 (a:Int) 126)=((a &&& 126:Nat):Int):=by
  rw [show (126:Int)=((126:Nat):Int) from rfl,ZbB a 126 ha (by decide)]; exact IntWalk.u64_in _ ⟨by omega,by omega⟩
 have w2:IntKind.u64.wrap (bits .and .u8 (b:Int) 126)=((b &&& 126:Nat):Int):=by
  rw [show (126:Int)=((126:Nat):Int) from rfl,ZbB b 126 hb (by decide)]; exact IntWalk.u64_in _ ⟨by omega,by omega⟩
 have hle:=Z9o (b &&& 126) (a &&& 126)
 have hz0:((a &&& 126) ||| (b &&& 126)).testBit 0=false:=by rw [Nat.testBit_or,zero126,zero126]; rfl
 refine Z3 ok6 (Nat.le_of_ble_eq_true rfl) fun C hC=>?_
 (repeat'(first|refine Z2 16 ?_|refine Z1 16 ?_|refine st ?_|(apply B<;>intro hb<;>try cases hb)))<;>try refine At.mk ?_
 refine Z4 Z3v rfl rfl rfl trivial rfl ?_
 (repeat'(first|refine Z2 19 ?_|refine Z1 19 ?_|refine st ?_|(apply B<;>intro hb<;>try cases hb)))<;>try refine At.mk ?_
 refine Zo rfl rfl (Z34 p hp fl) ⟨Z4E _,trivial⟩ rfl ?_
 rintro r ⟨f,m,rfl⟩
 have hpf:=Zk .i64 f
 have hpg:=Zk .u8 f
 (repeat'(first|refine Z2 22 ?_|refine Z1 22 ?_|refine st ?_|(apply B<;>intro hb<;>try cases hb)))<;>try refine At.mk ?_
 refine Zo rfl rfl (Z5d x hx) ⟨trivial,trivial⟩ rfl ?_
 rintro r ⟨l,fl2,S,hgl,rfl⟩
 have hpl:=Zg l
 (repeat'(first|refine Z2 35 ?_|refine Z1 35 ?_|refine st ?_|(apply B<;>intro hb<;>try cases hb)))<;>try refine At.mk ?_
 refine Z4 (Z3w m) rfl rfl rfl ⟨hpf,trivial⟩ rfl ?_
 (repeat'(first|refine Z2 37 ?_|refine Z1 37 ?_|refine st ?_|(apply B<;>intro hb<;>try cases hb)))<;>try refine At.mk ?_
 refine Z4 (Z2c (a &&& 126) (by omega)) rfl rfl (by rw [← w1]; rfl) ⟨trivial,trivial⟩ rfl ?_
 (repeat'(first|refine Z2 39 ?_|refine Z1 39 ?_|refine st ?_|(apply B<;>intro hb<;>try cases hb)))<;>try refine At.mk ?_
 refine Z4 (Z2c (b &&& 126) (by omega)) rfl rfl (by rw [← w2]; rfl) ⟨trivial,trivial⟩ rfl ?_
 (repeat'(first|refine Z2 41 ?_|refine Z1 41 ?_|refine st ?_|(apply B<;>intro hb<;>try cases hb)))<;>try refine At.mk ?_
 refine Zo rfl rfl (Z2l m.six.holdsW m.d1000 m.sbig l S (a &&& 126) (b &&& 126) (by omega) (by omega) hz0) ⟨hpg,Z0 _,Z0 _,Zv _ _,trivial⟩ rfl ?_
 intro r hr
 obtain⟨out,f3,hm,hso,rfl⟩:=Z8w m.six.check (by omega) hr
 (repeat'(first|refine Z2 49 ?_|refine Z1 49 ?_|refine st ?_|(apply B<;>intro hb<;>try cases hb)))<;>try refine At.mk ?_
 refine Z7C (Z5x m.six l fl2 hgl.small (a &&& 126) (b &&& 126) (by omega) (by omega)) rfl rfl (by rw [← w1,← w2]; rfl) ⟨hpf,hpl,trivial,trivial,trivial⟩ rfl ?_
 rintro r ⟨out2,f4,hR,rfl⟩
 obtain rfl:=Z4Q hm hR.mins (fun s h=>ZaL (by omega) h) hso hR.so
 have hse:=Z6P out f3 f4 (ZbM (by omega) hm)
 unfold resR
 rcases Z5O out with e|e
 all_goals
  rw [e]
  (repeat'(first|refine Z2 58 ?_|refine Z1 58 ?_|refine st ?_|(apply B<;>intro hb<;>try cases hb)))<;>try refine At.mk ?_
  refine Zh rfl ?_
  refine Z4 hse rfl rfl rfl ⟨Z1a _,Z1m _,trivial⟩ rfl ?_
  (refine go ?_;repeat' (apply B<;>intro hb<;>try cases hb))
  exact Z5 rfl trivial rfl
end Go.Proofs.YtjpkfigmmmngnaaGreatDoor
namespace Go.Proofs.YtjpkfigmmmngnaaGreatDoor
open Go.ChangeShapes Go.WideShapes Go.ChangeAt Go.RowKit
theorem ZbN {α:Type} {enc:α→List PV} {Q:α→Prop}:∀ {ll:List (List PV)},(∀ l∈ll,∃ x,Q x∧l=enc x)→∃ xs:List α,(∀ x∈xs,Q x)∧ll=xs.map enc
 | [],_=>⟨[],fun _ h=>(by cases h),rfl⟩
 | l :: ll, h => by
   obtain⟨x,h1,rfl⟩:=h l (List.mem_cons_self ..)
   obtain⟨xs,h2,rfl⟩:=ZbN fun l hl=>h l (List.mem_cons_of_mem _ hl)
   refine⟨x :: xs,fun y hy=>?_,rfl⟩
   rcases List.mem_cons.1 hy with rfl|hy
   · exact h1
   · exact h2 y hy
theorem Z35 {P:Program} {s t u:TypeId}:∀ {ps:List PV},ShapeVs P [s,t,u] ps→∃ a b c,ps = [a,b,c]∧ShapeV P s a∧ShapeV P t b∧ShapeV P u c
 | [a,b,c],⟨h1,h2,h3,_⟩=>⟨a,b,c,rfl,h1,h2,h3⟩
theorem ZeT {m:Int} (h:(Lit.int .u8 m).wf=true):∃ a:Nat,a<256∧m=(a:Int):=by
 simp only [Lit.wf,Bool.and_eq_true,decide_eq_true_eq] at h
 obtain⟨h1,h2⟩:=h
 have h3:m≤255:=h2
 have h4:0≤m:=h1
 exact⟨m.toNat,by omega,by omega⟩
theorem Zh6 {m:Int} (h:(Lit.int .u64 m).wf=true):∃ a:Nat,a<18446744073709551616∧m=(a:Int):=by
 simp only [Lit.wf,Bool.and_eq_true,decide_eq_true_eq] at h
 obtain⟨h1,h2⟩:=h
 have h3:m≤18446744073709551615:=h2
 have h4:0≤m:=h1
 exact⟨m.toNat,by omega,by omega⟩
theorem Zgf {n:Nat} {l:List PV} (h:Shape Tryz.prog n 5 l):∃ x:Nat,x≤255∧l = [PV.val (.int .u8 (x:Int))]:=by
 obtain⟨m1,w1,e1⟩:=Z4U h (k:=.u8) (by kernel_rfl)
 obtain⟨x,hx,rfl⟩:=ZeT w1
 exact⟨x,by omega,e1⟩
theorem Z4b {p:PV} (h:ShapeV Tryz.prog 22 p):∃ (l:List Nat) (fl:Bool),Bytes l∧p=.vec (bys l) fl:=by
 obtain⟨n,ll,fl,_,h2,rfl⟩:=Z9q h (e:=5) (by kernel_rfl)
 obtain⟨xs,h3,rfl⟩:=ZbN (enc:=fun (x:Nat) => [PV.val (.int .u8 (x:Int))]) (Q:=fun (x:Nat)=>x≤255) fun l hl=>Zgf (h2 l hl)
 exact⟨xs,fl,h3,rfl⟩
theorem Z4V {p:PV} (h:ShapeV Tryz.prog 23 p):∃ s:Nat,s<18446744073709551616∧p=.val (.int .u64 (s:Int)):=by
 obtain⟨m,w,rfl⟩:=Zd3 h (k:=.u64) (by kernel_rfl)
 obtain⟨x,hx,rfl⟩:=Zh6 w
 exact⟨x,hx,rfl⟩
theorem ZaN {P:Program} {n m:Nat} {t e:TypeId} {ps:List PV} (h:Shape P n t ps) (hk:P.underlying t=some (.array m e)):∃ n',ps.length=P.cellsOf t∧∀ i,i<m→Shape P n' e ((ps.drop (i*P.cellsOf e)).take (P.cellsOf e)):=by
 cases n with
 | zero=>exact h.elim
 | succ n =>
   have:ps.length=P.cellsOf t∧∀ i,i<m→Shape P n e ((ps.drop (i*P.cellsOf e)).take (P.cellsOf e)):=by simpa only [Shape,hk] using h
   exact⟨n,this⟩
theorem Z9r {P:Program} {m:Nat} {t e:TypeId} {p:PV} (h:ShapeV P t p) (hk:P.underlying t=some (.array m e)):∃ n ps,p=.agg ps∧Shape P n t ps:=by
 obtain⟨n,h⟩:=h
 simp only [hk] at h
 exact⟨n,h⟩
theorem ZaO {P:Program} {t e:TypeId} {p:PV} (h:ShapeV P t p) (hk:P.underlying t=some (.array 2 e)) (hc:P.cellsOf t=2) (h1:P.cellsOf e=1) (hi:intT P e=some .u8):∃ y:Nat×Nat,(y.1<256∧y.2<256)∧p=.agg [.val (.int .u8 (y.1:Int)),.val (.int .u8 (y.2:Int))]:=by
 obtain⟨n,ps,rfl,hs⟩:=Z9r h hk
 obtain⟨n',hl,hf⟩:=ZaN hs hk
 rw [hc] at hl
 rw [h1] at hf
 match ps,hl with
 | [a, b], _ =>
   obtain⟨m1,w1,e1⟩:=Z4U (show Shape P n' _ [a] from hf 0 (by decide)) hi
   obtain⟨m2,w2,e2⟩:=Z4U (show Shape P n' _ [b] from hf 1 (by decide)) hi
   obtain⟨x,hx,rfl⟩:=ZeT w1
   obtain⟨y,hy,rfl⟩:=ZeT w2
   simp only [List.cons.injEq,and_true] at e1 e2
   subst e1; subst e2
   exact⟨(x,y),⟨hx,hy⟩,rfl⟩
theorem Z6R {p:PV} (h:ShapeV Tryz.prog 24 p):∃ y:Nat×Nat,(y.1<256∧y.2<256)∧p=.agg [.val (.int .u8 (y.1:Int)),.val (.int .u8 (y.2:Int))]:=ZaO h (e:=5) (by kernel_rfl) (by kernel_rfl) (by kernel_rfl) (by kernel_rfl)
theorem Z4c:∀ ps,ShapeVs Tryz.prog Tryz.f5.params.toList ps→pureL ps→Spec Tryz.prog 5 ps (· = .val (.bool true)):=by
 intro ps hs hp
 rw [show Tryz.f5.params.toList = [22,23,23] by kernel_rfl] at hs
 obtain⟨a,b,c,rfl,k0,k1,k2⟩:=Z35 hs
 obtain⟨x0,f0,h0,rfl⟩:=Z4b k0
 obtain⟨x1,h1,rfl⟩:=Z4V k1
 obtain⟨x2,h2,rfl⟩:=Z4V k2
 exact Z4T x0 x1 x2 f0 h0 h1 h2
set_option maxRecDepth 100000 in
theorem Z3x (os:Os) (started:os.Started) (H:Type) (enc:TypeId×Value→H) :
 ReturnsInHanded {} Tryz.checked os 5 .any (fun w args=>(Rows.witnessRepairsSpec.pre enc Tryz.prog Tryz.f5 [] false w args∧laidMetH Tryz.prog laidV w)∧sizedMet enc Tryz.prog Tryz.f5 (OpenSpec.ofChange Rows.witnessRepairsSpec) false w args)
  (Rows.witnessRepairsSpec.post enc Tryz.prog Tryz.f5 false true false false):=by
 refine returnsInHanded_of_change_and (C:=Tryz.checked) (X:=fun w _=>laidMetH Tryz.prog laidV w) (fun _ _ _ hh h=>h.of_heap hh) own started (by kernel_rfl) Tryz.func5
  (ChangeSpec.witness_shaped (enc:=enc) (C:=Tryz.checked) (os:=os) (X:=fun w _=>laidMetH Tryz.prog laidV w) false (World.doorLaid Tryz.prog 400 os) #[.slice none 0 0,.int .u64 0,.int .u64 0] 8 rfl (World.shaped_of_RefB (by kernel_rfl) (by kernel_rfl)) (by kernel_rfl) (by kernel_rfl) (by kernel_rfl) (Z8f os _)) ?_
 intro W base args ds gs before hval hW _ hwt hL _
 exact Z3o (P:=Tryz.prog) (G:=partsG Tryz.prog Tryz.f5.params.toList) (by kernel_rfl) (Zeb (by kernel_rfl)) laidOut (Z6v (by kernel_rfl)) (tb:=4) (by kernel_rfl) (by kernel_rfl) rfl (fun ds hd=>by
  match ds,hd with
  | [a,b,c],_=>exact⟨rfl,rfl,rfl⟩) Z4c W (Z8g hL) base args ds gs before hval hW hwt
theorem Z3O:Rows.WitnessRepairsSaid :=
 OpenClaim.holds_of_wide 5 Tryz.f5 rfl rfl rfl rfl rfl rfl rfl ⟨rfl,rfl,rfl,rfl,rfl⟩ rfl rfl rfl rfl rfl (by kernel_rfl) Tryz.func5 (by kernel_rfl)
  (of_decide_eq_true (by kernel_rfl)) (by unfold Func.isWrapper; first|(rw [if_pos (by decide +kernel)]; kernel_rfl)|(rw [if_neg (by decide +kernel)]; exact⟨rfl,rfl⟩))
  (fun os started H enc _=>Z3x os started H enc)
theorem witnessRepairs_card:Rows.WitnessRepairsCardSaid :=
 Claim7.holds_tied_plain_at .later [] [.data,.data,.data] true (true, "3b95f6944516eaa7af7441d5befe7852d094d3e59071218fbee46b50b6f9d4f3") true
  Z3O (fun _ h=>by cases h) (by kernel_rfl) (fun _ h=>by cases h) witnessRepairs_row_tie rfl ⟨rfl,rfl⟩ (by kernel_rfl) rfl
  (fun f fn hf hfn => by
    obtain rfl : f = 5 := Option.some.inj ((show Tryz.prog.funcNamed "arbac/arbaclaw21.WitnessRepairs" = some 5 by kernel_rfl).symm.trans hf) |>.symm
    obtain rfl:fn=Tryz.f5:=(Option.some.inj (Tryz.func5.symm.trans hfn)).symm
    exact⟨by kernel_rfl,fun j t ht=>by
     rw [show Tryz.f5.params = #[22,23,23] by kernel_rfl] at ht
     have hm:t∈[22,23,23]:=by simpa using Array.mem_of_getElem? ht
     have hall:([22,23,23].all fun u => !Tryz.prog.wantsStandIn u)=true:=by kernel_rfl
     exact (show Tryz.prog.wantsStandIn t=false by simpa using List.all_eq_true.1 hall t hm)⟩)
  (by kernel_rfl)
#print axioms witnessRepairs_card
end Go.Proofs.YtjpkfigmmmngnaaGreatDoor
