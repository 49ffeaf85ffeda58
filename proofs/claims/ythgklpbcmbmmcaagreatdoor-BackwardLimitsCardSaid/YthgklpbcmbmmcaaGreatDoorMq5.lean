/-
  Merged from the texts that this claim's theorem needs, part 6 of 7. No statement of the seat is proved here.
-/
import Derived.Test.YthgklpbcmbmmcaaGreatDoorMq4
set_option linter.unusedSimpArgs false
set_option linter.unusedVariables false
set_option linter.unusedSectionVars false
namespace Go.Proofs.YthgklpbcmbmmcaaGreatDoor
open Go.RowKit
noncomputable def goodB (t:PB) (s:Nat):Bool := !soC t.nv (clo t.l s)
noncomputable def reachB (t:PB) (s:Nat):Bool:=soC t.gl (clo t.l s)
def nextR (r:RU) (s:Nat):Nat:=if r.rev then minusN s (2 ^ r.tg) else s ||| 2 ^ r.tg
noncomputable def stepR (t:PB) (r:RU) (s:Nat):Bool:=decide (nextR r s≠s)&&(goodB t (nextR r s)&&(r.rev||hoC r.cu (clo t.l s)))
def InS (t:PB) (s:Nat):Prop:=s ||| mkN t.n=mkN t.n
theorem InS.lt {t:PB} (hn:t.n≤63) {s:Nat} (h:InS t s):s<18446744073709551616:=by
 have h1:s≤mkN t.n:=by rw [← h]; exact Nat.left_le_or
 have:=Z3F hn
 omega
theorem ZU {r:RU} (hr:r.tg<64) {s:Nat} (hs:s<18446744073709551616) (i:Nat):(nextR r s).testBit i=if i=r.tg then !r.rev else s.testBit i:=by
 unfold nextR
 cases hv:r.rev with
 | true =>
   rw [if_pos rfl,Zz hs (ZL hr),Nat.testBit_two_pow]
   by_cases hi:i=r.tg
   · subst hi; simp
   · rw [if_neg hi,decide_eq_false (fun h=>hi h.symm)]; simp
 | false =>
   rw [if_neg (by decide),Nat.testBit_or,Nat.testBit_two_pow]
   by_cases hi:i=r.tg
   · subst hi; simp
   · rw [if_neg hi,decide_eq_false (fun h=>hi h.symm),Bool.or_false]
theorem ZaN {t:PB} {r:RU} (h1:1≤r.tg) (h2:r.tg≤t.n) (hn:t.n≤63) {s:Nat} (hs:InS t s):InS t (nextR r s):=by
 refine orSub.2 fun i hi=>?_
 rw [ZU (by omega) (hs.lt hn)] at hi
 by_cases he:i=r.tg
 · rw [Z2g,decide_eq_true (show 1≤i by omega),decide_eq_true (show i≤t.n by omega)]; rfl
 · rw [if_neg he] at hi
   exact orSub.1 hs i hi
theorem ZaO {r:RU} (hr:r.tg<64) {s:Nat} (hs:s<18446744073709551616):nextR r s≠s↔s.testBit r.tg=r.rev:=by
 constructor
 · intro h
   apply Classical.byContradiction
   intro he
   refine h (Nat.eq_of_testBit_eq fun i=>?_)
   rw [ZU hr hs]
   by_cases hi:i=r.tg
   · subst hi; rw [if_pos rfl]
     revert he
     cases s.testBit r.tg<;>cases r.rev<;>decide
   · rw [if_neg hi]
 · intro h he
   have:=ZU hr hs r.tg
   rw [he,if_pos rfl,h] at this
   revert this
   cases r.rev<;>decide
def befC (c:Cu) (tg:Nat) (rev:Bool):Cu:=if rev then (c.1,minusN c.2 (2 ^ tg)) else (minusN c.1 (2 ^ tg),c.2)
def befB (c:Cu) (tg:Nat) (rev:Bool):Bool:=if rev then !c.1.testBit tg else !c.2.testBit tg
theorem Zdq {c:Cu} (hc:Ok64 c) {r:RU} (hr:r.tg<64) {s:Nat} (hs:s<18446744073709551616):hoC c (nextR r s)=(befB c r.tg r.rev&&hoC (befC c r.tg r.rev) s):=by
 rw [Bool.eq_iff_iff,Bool.and_eq_true,Z14,Z14]
 have hp:=ZL hr
 unfold befB befC
 cases hv:r.rev with
 | true =>
   simp only [if_true]
   constructor
   · rintro ⟨h1, h2⟩
     refine⟨?_,fun i hi=>?_,fun i hi=>?_⟩
     · cases hb : c.1.testBit r.tg with
       | false=>rfl
       | true=>have:=h1 r.tg hb; rw [ZU hr hs,if_pos rfl,hv] at this; cases this
     · have := h1 i hi
       rw [ZU hr hs] at this
       by_cases he:i=r.tg
       · rw [if_pos he,hv] at this; cases this
       · rwa [if_neg he] at this
     · rw [Zz hc.2 hp, Nat.testBit_two_pow, Bool.and_eq_true] at hi
       have:=h2 i hi.1
       rw [ZU hr hs] at this
       have he:¬ i=r.tg:=fun he=>by subst he; simp at hi
       rwa [if_neg he] at this
   · rintro ⟨h0, h1, h2⟩
     refine⟨fun i hi=>?_,fun i hi=>?_⟩
     · rw [ZU hr hs]
       have he:¬ i=r.tg:=fun he=>by subst he; rw [hi] at h0; cases h0
       rw [if_neg he]; exact h1 i hi
     · rw [ZU hr hs]
       by_cases he:i=r.tg
       · rw [if_pos he,hv]; rfl
       · rw [if_neg he]
         exact h2 i (by rw [Zz hc.2 hp,Nat.testBit_two_pow,hi,decide_eq_false fun h=>he h.symm]; rfl)
 | false =>
   simp only [Bool.false_eq_true,if_false]
   constructor
   · rintro ⟨h1, h2⟩
     refine⟨?_,fun i hi=>?_,fun i hi=>?_⟩
     · cases hb : c.2.testBit r.tg with
       | false=>rfl
       | true=>have:=h2 r.tg hb; rw [ZU hr hs,if_pos rfl,hv] at this; cases this
     · rw [Zz hc.1 hp, Nat.testBit_two_pow, Bool.and_eq_true] at hi
       have:=h1 i hi.1
       rw [ZU hr hs] at this
       have he:¬ i=r.tg:=fun he=>by subst he; simp at hi
       rwa [if_neg he] at this
     · have := h2 i hi
       rw [ZU hr hs] at this
       by_cases he:i=r.tg
       · rw [if_pos he,hv] at this; cases this
       · rwa [if_neg he] at this
   · rintro ⟨h0, h1, h2⟩
     refine⟨fun i hi=>?_,fun i hi=>?_⟩
     · rw [ZU hr hs]
       by_cases he:i=r.tg
       · rw [if_pos he,hv]; rfl
       · rw [if_neg he]
         exact h1 i (by rw [Zz hc.1 hp,Nat.testBit_two_pow,hi,decide_eq_false fun h=>he h.symm]; rfl)
     · rw [ZU hr hs]
       have he:¬ i=r.tg:=fun he=>by subst he; rw [hi] at h0; cases h0
       rw [if_neg he]; exact h2 i hi
def befD (c:Cu) (tg:Nat) (rev:Bool):Cu:=if rev then ((befC c tg rev).1 ||| 2 ^ tg,(befC c tg rev).2) else ((befC c tg rev).1,(befC c tg rev).2 ||| 2 ^ tg)
theorem ZeT {c:Cu} (hc:Ok64 c) {r:RU} (hr:r.tg<64) {s:Nat} (hs:s<18446744073709551616):(befB c r.tg r.rev&&hoC (befD c r.tg r.rev) s)=(hoC c (nextR r s)&&decide (nextR r s≠s)):=by
 rw [Zdq hc hr hs]
 have hne:=ZaO hr hs
 have e:hoC (befD c r.tg r.rev) s=(hoC (befC c r.tg r.rev) s&&decide (nextR r s≠s)):=by
  unfold befD
  cases hv:r.rev with
  | true =>
    rw [if_pos rfl,Z6M]
    rw [hv] at hne
    congr 1
    rw [Bool.eq_iff_iff,decide_eq_true_eq,hne]
  | false =>
    rw [if_neg (by decide),ZeJ]
    rw [hv] at hne
    congr 1
    rw [Bool.eq_iff_iff,decide_eq_true_eq,hne,Bool.not_eq_true']
 rw [e,Bool.and_assoc]
end Go.Proofs.YthgklpbcmbmmcaaGreatDoor
namespace Go.Proofs.YthgklpbcmbmmcaaGreatDoor
open Go.RowKit
attribute [local irreducible] aw opsK dK
theorem ZM (l:List Nat) (hl:Bytes l) (fl:Bool) (t:Nat) (ht:t≤1099511627776):PSpec Tryz.prog 96 (srcB l fl t) [] fun r b'=>∃ v:Nat,v≤255∧r=.val (.int .i64 (v:Int))∧b'=srcB l fl (t+1):=by
 refine Z3J ok96 (Nat.le_of_ble_eq_true rfl) fun C hC=>?_
 have hll:(bys l).length=l.length:=by simp [bys]
 have hinc:IntKind.i64.wrap ((t:Int)+1)=((t+1:Nat):Int):=IntWalk.i64_in _ ⟨by omega,by omega⟩
 have hdec:IntKind.i64.wrap (((t+1:Nat):Int)-1)=(t:Int):=by rw [show ((t+1:Nat):Int)-1=(t:Int) by omega]; exact Z7a _ (by omega)
 iterate 10 (first|refine st ?_|(apply B<;>intro hb<;>try cases hb))
 refine Zv rfl rfl rfl hinc ?_
 (refine go ?_;repeat' (apply B<;>intro hb<;>try cases hb))
 · refine Zgl rfl trivial rfl (Zy l fl (t+1)) ⟨0,by omega,rfl,rfl⟩
 · have htl : t < l.length := by simp [hll] at hb; omega
   rw [hdec]
   refine Zs (Zn (xs:=l) rfl rfl t rfl htl rfl) rfl rfl ?_
   (refine go ?_;repeat' (apply B<;>intro hb<;>try cases hb))
   have hx:=hl l[t] (List.getElem_mem _)
   refine Zgl rfl trivial rfl (Zy l fl (t+1)) ⟨l[t],hx,?_,rfl⟩
   rw [Z7a _ (by omega)]
theorem Zdr (a b:Nat) (ha:a<256) (hb:b<256):bits .andNot .u8 (a:Int) (b:Int)=((minusN a b:Nat):Int):=by
 have hx:minusN a b≤a:=Nat.and_le_left
 have h1:(BitVec.ofInt 8 (a:Int)).toNat=a:=by
  rw [BitVec.ofInt_natCast,BitVec.toNat_ofNat]; exact Nat.mod_eq_of_lt (by omega)
 have h2:(~~~(BitVec.ofInt 8 (b:Int))).toNat=255-b:=by
  rw [BitVec.toNat_not,BitVec.ofInt_natCast,BitVec.toNat_ofNat,Nat.mod_eq_of_lt (by omega)]
 have h3:a &&& (255-b)=minusN a b:=by
  refine Nat.eq_of_testBit_eq fun i=>?_
  rw [Zz (by omega) (by omega),Nat.testBit_and]
  have h:=Nat.testBit_two_pow_sub_succ (n:=8) (show b<2 ^ 8 by omega) i
  rw [show (2:Nat) ^ 8-(b+1)=255-b by omega] at h
  rw [h]
  by_cases hi:i<8
  · simp [hi]
  · have : a.testBit i = false := Nat.testBit_lt_two_pow (Nat.lt_of_lt_of_le (show a < 2 ^ 8 by omega) (Nat.pow_le_pow_right (by decide) (by omega)))
    simp [this]
 show IntKind.u8.wrap ((BitVec.ofInt 8 (a:Int) &&& ~~~(BitVec.ofInt 8 (b:Int))).toNat:Int)=_
 rw [BitVec.toNat_and,h1,h2,h3]
 exact IntWalk.u8_in _ ⟨by omega,by omega⟩
theorem Zds (a m:Nat):a &&& m ||| m=m:=orSub.2 fun i hi=>by
 rw [Nat.testBit_and,Bool.and_eq_true] at hi
 exact hi.2
theorem Zg2 (X Y:Int) (m:Nat) (hm:m<256):∃ c:Cu,InM m c∧emC c=false∧([.val (.int .u64 (IntKind.u64.wrap (bits .and .u8 X (m:Int)))),.val (.int .u64 (IntKind.u64.wrap (bits .andNot .u8 (bits .and .u8 Y (m:Int)) (bits .and .u8 X (m:Int)))))]:List PV)=raC c:=by
 have hA:∀ X:Int,∃ a:Nat,a<256∧bits .and .u8 X (m:Int)=((a &&& m:Nat):Int):=fun X=>by
  refine⟨(BitVec.ofInt 8 X).toNat,(BitVec.ofInt 8 X).isLt,?_⟩
  rw [← Zfm _ _ (BitVec.ofInt 8 X).isLt hm]
  show IntKind.u8.wrap ((BitVec.ofInt 8 X &&& BitVec.ofInt 8 (m:Int)).toNat:Int)=IntKind.u8.wrap ((BitVec.ofInt 8 ((BitVec.ofInt 8 X).toNat:Int) &&& BitVec.ofInt 8 (m:Int)).toNat:Int)
  rw [show BitVec.ofInt 8 ((BitVec.ofInt 8 X).toNat:Int)=BitVec.ofInt 8 X by rw [BitVec.ofInt_natCast,BitVec.ofNat_toNat,BitVec.setWidth_eq]]
 obtain⟨a,ha,ea⟩:=hA X
 obtain⟨b,hb,eb⟩:=hA Y
 have h1:a &&& m<256:=Nat.lt_of_le_of_lt Nat.and_le_left ha
 have h2:b &&& m<256:=Nat.lt_of_le_of_lt Nat.and_le_left hb
 have h3:minusN (b &&& m) (a &&& m)≤b &&& m:=Nat.and_le_left
 rw [ea,eb,Zdr _ _ h2 h1,IntWalk.u64_in _ ⟨by omega,by omega⟩,IntWalk.u64_in _ ⟨by omega,by omega⟩]
 refine⟨(a &&& m,minusN (b &&& m) (a &&& m)),⟨Zds a m,orSub.2 fun i hi=>?_⟩,?_,rfl⟩
 · show m.testBit i = true
   have hi:(minusN (b &&& m) (a &&& m)).testBit i=true:=hi
   rw [Zz (by omega) (by omega),Bool.and_eq_true,Nat.testBit_and,Bool.and_eq_true] at hi
   exact hi.1.2
 · unfold emC
   refine decide_eq_false fun hn=>hn (ZeP.2 fun i hi=>?_)
   show (minusN (b &&& m) (a &&& m)).testBit i=false
   rw [Zz (by omega) (by omega),show (a &&& m).testBit i=true from hi]
   simp
set_option maxHeartbeats 1000000 in
theorem Z4H (x y:Int) (m:Nat) (hm:m<256):Spec Tryz.prog 98 [.val (.int .i64 x),.val (.int .i64 y),.val (.int .u8 (m:Int))] fun r=>∃ c:Cu,InM m c∧emC c=false∧r=.agg (raC c):=by
 refine Z4 ok98 (Nat.le_of_ble_eq_true rfl) fun C hC=>?_
 (refine go ?_;repeat' (apply B<;>intro hb<;>try cases hb))
 obtain⟨c,h1,h2,h3⟩:=Zg2 (bits .and .u8 (IntKind.u8.wrap x) (IntKind.u8.wrap (bits .or .i64 (x.fdiv (2 ^ (min (1:Int).toNat IntKind.i64.bits))) (IntKind.i64.wrap (x*2 ^ (min (3:Int).toNat IntKind.i64.bits)))))) (bits .and .u8 (IntKind.u8.wrap y) (IntKind.u8.wrap (bits .or .i64 (y.fdiv (2 ^ (min (2:Int).toNat IntKind.i64.bits))) (IntKind.i64.wrap (y*2 ^ (min (1:Int).toNat IntKind.i64.bits)))))) m hm
 refine Z8 rfl ⟨trivial,trivial,trivial⟩ ⟨c,h1,h2,?_⟩
 exact congrArg PV.agg h3
noncomputable def hierP (l:List Pr) (S:List Nat):PV:=.cp [.cp (ordC l S)]
theorem Zw (l:List Pr) (S:List Nat):(hierP l S).pure:=⟨Z12 l S,trivial⟩
theorem Z4T:Spec Tryz.prog 42 [] fun r=>∃ S,r=hierP [] S:=by
 refine Z4 ok42 (Nat.le_of_ble_eq_true rfl) fun C hC=>?_
 (refine go ?_;repeat' (apply B<;>intro hb<;>try cases hb))
 refine ZC rfl rfl (Z8f [] true (fun p hp=>by cases hp) List.nodup_nil ⟨fun _=>0,fun p hp=>by cases hp⟩ (by decide)) ⟨trivial,trivial,trivial⟩ rfl ?_
 rintro r ⟨l',o,h1,h2,⟨S',rfl⟩,rfl⟩
 obtain rfl:=List.Perm.eq_nil h1
 (repeat'(first|refine Z2 9 ?_|refine Z0 9 ?_|refine st ?_|(apply B<;>intro hb<;>try cases hb)))<;>try refine At.mk ?_
 refine Z6 rfl rfl rfl ?_
 (refine go ?_;repeat' (apply B<;>intro hb<;>try cases hb))
 exact Z8 rfl (Zw [] S') ⟨S',rfl⟩
theorem Z6Q (a:Int):Spec Tryz.prog 139 [.val (.int .i64 a)] (· = .val (.bool (decide (1≤a)&&decide (a≤63)))):=by
 refine Z4 ok139 (Nat.le_of_ble_eq_true rfl) fun C hC=>?_
 (refine go ?_;repeat' (apply B<;>intro hb<;>try cases hb))
 all_goals exact Z8 rfl trivial (by simp_all<;>omega)
theorem Z5Z (a:Nat) (h1:1≤a) (h2:a<64):Spec Tryz.prog 139 [.val (.int .i64 (a:Int))] (· = .val (.bool true)):=by
 have:=Z6Q (a:Int)
 rwa [decide_eq_true (show (1:Int)≤a by omega),decide_eq_true (show (a:Int)≤63 by omega)] at this
set_option maxHeartbeats 1000000 in
theorem Zdt (l:List Pr) (S:List Nat) (a b:Nat) (ha:1≤a∧a<64) (hb:1≤b∧b<64) (hab:a≠b) (hl:Small l) (hn:l.Nodup) (hno:(a,b) ∉ l) (hacy:Acy (l ++ [(a,b)])) (hlen:l.length≤100000):Spec Tryz.prog 100 [hierP l S,.val (.int .i64 (a:Int)),.val (.int .i64 (b:Int))] fun r=>∃ l' S',l'.Perm (l ++ [(a,b)])∧SortedP l'∧r=.tup [hierP l' S',.val (.int .i64 0)]:=by
 have hne:((a:Int) == (b:Int))=false:=by rw [beq_eq_false_iff_ne]; omega
 refine Z4 ok100 (Nat.le_of_ble_eq_true rfl) fun C hC=>?_
 (refine go ?_;repeat' (apply B<;>intro hb<;>try cases hb))
 refine Z7 (Z5Z a ha.1 ha.2) rfl rfl rfl ⟨trivial,trivial⟩ rfl ?_
 (refine go ?_;repeat' (apply B<;>intro hb<;>try cases hb))
 refine Z7 (Z5Z b hb.1 hb.2) rfl rfl rfl ⟨trivial,trivial⟩ rfl ?_
 (repeat'(first|refine Z2 25 ?_|refine Z0 25 ?_|refine st ?_|(apply B<;>intro hb<;>try cases hb)))<;>try refine At.mk ?_
 refine Zq rfl ?_
 refine Z5 (Za rfl hne) rfl rfl ?_
 (refine go ?_;repeat' (apply B<;>intro hb<;>try cases hb))
 refine ZC rfl rfl (ZbG l S a b ha.2 hb.2 hl hn hno hacy hlen) ⟨Z12 l S,trivial,trivial,trivial⟩ rfl ?_
 rintro r ⟨l',o,h1,h2,⟨S',rfl⟩,rfl⟩
 (repeat'(first|refine Z2 42 ?_|refine Z0 42 ?_|refine st ?_|(apply B<;>intro hb<;>try cases hb)))<;>try refine At.mk ?_
 refine Z6 rfl rfl rfl ?_
 (refine go ?_;repeat' (apply B<;>intro hb<;>try cases hb))
 exact Z8 rfl ⟨Zw l' S',trivial,trivial⟩ ⟨l',S',h1,h2,rfl⟩
theorem Z8p (l:List Pr) (S:List Nat) (r:Int):Spec Tryz.prog 129 [hierP l S,.val (.int .i64 r)] (· = setN (if 1≤r∧r≤63 then jun l r.toNat else 0)):=by
 refine Z4 ok129 (Nat.le_of_ble_eq_true rfl) fun C hC=>?_
 (refine go ?_;repeat' (apply B<;>intro hb<;>try cases hb))
 refine Z7 (Z6Q r) rfl rfl rfl ⟨trivial,trivial⟩ rfl ?_
 by_cases h:1≤r∧r≤63
 · rw [if_pos h, decide_eq_true h.1, decide_eq_true h.2]
   obtain⟨k,rfl⟩:∃ k:Nat,r=(k:Int):=⟨r.toNat,by omega⟩
   have hk:k<64:=by omega
   have h1:=Z9r l S (k:Int)
   rw [if_pos ⟨by omega,by omega⟩] at h1
   have h2:=Z35 (bel l k) (Nat.le_trans (Z2x (ZcX l k)) (by decide)) (k:Int)
   rw [withN,if_pos ⟨by omega,by omega⟩] at h2
   (refine go ?_;repeat' (apply B<;>intro hb<;>try cases hb))
   refine Z7 h1 rfl rfl rfl ⟨Z12 l S,trivial,trivial⟩ rfl ?_
   (refine go ?_;repeat' (apply B<;>intro hb<;>try cases hb))
   refine Z7 h2 rfl rfl rfl ⟨Z3 _,trivial,trivial⟩ rfl ?_
   (refine go ?_;repeat' (apply B<;>intro hb<;>try cases hb))
   exact Z8 rfl (Z3 _) rfl
 · rw [if_neg h]
   have h2:(decide (1≤r)&&decide (r≤63))=false:=by
    rw [Bool.and_eq_false_iff]
    by_cases h1:1≤r
    · exact .inr (decide_eq_false fun h3=>h ⟨h1,h3⟩)
    · exact .inl (decide_eq_false h1)
   rw [h2]
   (refine go ?_;repeat' (apply B<;>intro hb<;>try cases hb))
   refine Z1g rfl (Z3 0 |> fun h=>by rw [Z1E] at h; exact h) ?_
   rw [Z1E]; rfl
noncomputable def cloL (l:List Pr) (rs:List Nat):Nat:=rs.foldl (fun o r=>if 1≤r then o ||| jun l r else o) 0
theorem Zdu (l:List Pr) (rs:List Nat) (r:Nat):cloL l (rs ++ [r])=if 1≤r then cloL l rs ||| jun l r else cloL l rs:=by simp [cloL,List.foldl_append]
set_option maxHeartbeats 2000000 in
theorem Z2n (l:List Pr) (S:List Nat) (s:Nat) (hs:s<18446744073709551616):Spec Tryz.prog 92 [hierP l S,setN s] (· = setN (clo l s)):=by
 refine Z4 ok92 (Nat.le_of_ble_eq_true rfl) fun C hC=>?_
 refine Zk ?_
 refine Zb ?_
 refine Z6 rfl rfl rfl ?_
 refine Z6 rfl rfl rfl ?_
 (refine go ?_;repeat' (apply B<;>intro hb<;>try cases hb))
 refine Z7 (Z1Q s) rfl rfl rfl ⟨Z3 _,trivial⟩ rfl ?_
 (refine go ?_;repeat' (apply B<;>intro hb<;>try cases hb))
 have hhp:=Zw l S
 refine Z2J (X:=List Nat) hC (caps := [.cp [.vec (words (digs s)) false]]) [(2,.cp [hierP l S]),(4,.ptr 0 0 0),(5,.ptr 1 0 0),(8,.fn 130 [.cp [.vec (words (digs s)) false]])]
  (fun z => [(0,⟨1,[[.vec [] true]]⟩),(1,⟨1,[[.vec (words (digs (cloL l z))) false]]⟩)]) rfl ⟨⟨Zc _,trivial⟩,trivial⟩ (Z2M s hs) (fun _=>rfl)
  (fun ex pre z=>ex=.normal∧z=pre.map (·.val)) 2 (by decide) [] ⟨rfl,rfl⟩
  (Z3m (EnvQ.mem (ρ := fun i => i) (m := 2) (L := [(2, .cp [hierP l S]), (4, .ptr 0 0 0), (5, .ptr 1 0 0), (8, .fn 130 [.cp [.vec (words (digs s)) false]])]) ⟨⟨_, rfl, .pure _ ⟨hhp, trivial⟩⟩, ⟨_, rfl, .ptr (ρ := fun i => i) 0 0 0 (by decide)⟩, ⟨_, rfl, .ptr (ρ := fun i => i) 1 0 0 (by decide)⟩, ⟨_, rfl, .pure _ ⟨⟨Zc _, trivial⟩, trivial⟩⟩, trivial⟩)
    (HeapQ.mem (ρ:=fun i=>i) (m:=2) (L := [(0,⟨1,[[.vec [] true]]⟩),(1,⟨1,[[.vec (words (digs (cloL l []))) false]]⟩)]) ⟨⟨by decide,_,rfl,.same _ ⟨⟨trivial,trivial⟩,trivial⟩⟩,⟨by decide,⟨1,[[.vec [] true]]⟩,rfl,by rw [show cloL l []=0 from rfl,ZD]; exact RenB.single (ρ:=fun i=>i) (l0 := [.vec [] true]) (l := [.vec [] false]) (show RenLs _ _ [_] [_] from ⟨.low (.vec [] true) trivial,trivial⟩) rfl⟩,trivial⟩) hC (by decide))
  (fun z q hq=>by simp at hq; rcases hq with rfl|rfl<;>exact Nat.zero_lt_succ _) _ (fun x=>rfl) ?_ ?_ ?_
 · rintro C2 hC2 pre x z ⟨-, rfl⟩ hlen
   have hx64:=Z2y x.2
   have hj:=Z8p l S (x.val:Int)
   have hcz:cloL l (pre.map (·.val))<18446744073709551616:=by
    unfold cloL
    exact Z9p l _ 0 (fun r hr=>by obtain⟨y,_,rfl⟩:=List.mem_map.1 hr; exact Z2y y.2) (by decide)
   have hstep:=Zdu l (pre.map (·.val)) x.val
   have hnew:cloL l (pre.map (·.val)) ||| (if 1≤(x.val:Int)∧(x.val:Int)≤63 then jun l (x.val:Int).toNat else 0)=cloL l (pre.map (·.val) ++ [x.val]):=by
    rw [hstep]
    by_cases h1:1≤x.val
    · rw [if_pos h1,if_pos ⟨by omega,by omega⟩]; rfl
    · rw [if_neg h1,if_neg (by omega),Nat.or_zero]
   have hj64:(if 1≤(x.val:Int)∧(x.val:Int)≤63 then jun l (x.val:Int).toNat else 0)<18446744073709551616:=by
    split
    · exact ZaA l hx64
    · decide
   (refine go ?_;repeat' (apply B<;>intro hb<;>try cases hb))
   refine Zx hj rfl rfl rfl ⟨hhp,trivial,trivial⟩ ?_
   refine Zx (Z1S _ _ hcz hj64) rfl rfl rfl ⟨Z3 _,Z3 _,trivial⟩ ?_
   rw [hnew]
   (refine go ?_;repeat' (apply B<;>intro hb<;>try cases hb))
   exact⟨.inl rfl,pre.map (·.val) ++ [x.val],fun i=>i,⟨rfl,by rw [List.map_append]; rfl⟩,fun i hi=>rfl,Zo,
    ⟨⟨_,rfl,.pure _ ⟨hhp,trivial⟩⟩,⟨_,rfl,.ptr (ρ:=fun i=>i) 0 0 0 (by decide)⟩,⟨_,rfl,.ptr (ρ:=fun i=>i) 1 0 0 (by decide)⟩,⟨_,rfl,.pure _ ⟨⟨Zc _,trivial⟩,trivial⟩⟩,trivial⟩,
    ⟨⟨by decide,_,rfl,.same _ ⟨⟨trivial,trivial⟩,trivial⟩⟩,⟨by decide,_,rfl,.same _ ⟨⟨Zc _,trivial⟩,trivial⟩⟩,trivial⟩⟩
 · rintro xs z hxs ⟨-, rfl⟩
   rw [hxs]
   (refine go ?_;repeat' (apply B<;>intro hb<;>try cases hb))
   exact Z8 rfl (Z3 _) (by rw [Zdb]; rfl)
 · rintro ex pre z - ⟨rfl,_⟩ (h|⟨id,h⟩)<;>cases h
theorem ZbO (l:List Pr) (S:List Nat) (hlen:l.length≤1000000):Spec Tryz.prog 113 [hierP l S] (· = .vec (l.map prC) false):=by
 refine Z4 ok113 (Nat.le_of_ble_eq_true rfl) fun C hC=>?_
 (refine go ?_;repeat' (apply B<;>intro hb<;>try cases hb))
 refine Z7 (Z9q l S hlen) rfl rfl rfl ⟨Z12 l S,trivial⟩ rfl ?_
 (refine go ?_;repeat' (apply B<;>intro hb<;>try cases hb))
 exact Z8 rfl (Zf l) rfl
def ruR (r:RU):List PV := [.val (.bool r.rev),.val (.int .u64 (r.cu.1:Int)),.val (.int .u64 (r.cu.2:Int)),.val (.int .i64 (r.tg:Int)),.val (.int .i64 (r.og:Int))]
def ruP (r:RU):List PV := [.val (.bool r.rev),.vec (words (digs r.cu.1)) false,.vec (words (digs r.cu.2)) false,.val (.int .i64 (r.tg:Int)),.val (.int .i64 (r.og:Int))]
theorem ZeU (r:RU):pureL (ruR r):=⟨trivial,trivial,trivial,trivial,trivial,trivial⟩
theorem Z5h (r:RU):pureL (ruP r):=⟨trivial,Zc _,Zc _,trivial,trivial,trivial⟩
theorem Z1l (l:List RU):pureLL (l.map ruR):=Zg ZeU l
theorem ZX (l:List RU):pureLL (l.map ruP):=Zg Z5h l
theorem Z13 (l:List Cu):pureLL (l.map raC):=Zg Z2m l
theorem Z1c (l:List Cu):pureLL (l.map cuC):=Zg Zj l
def pbR (t:PB):List PV := [.val (.int .i64 (t.n:Int)),.vec (t.l.map prC) false,.val (.int .u64 (t.st:Int)),.vec (t.rs.map ruR) false,.vec (t.nv.map raC) false,.vec (t.gl.map raC) false]
noncomputable def pbP (t:PB) (S:List Nat):List PV := [.val (.int .i64 (t.n:Int)),hierP t.l S,.vec (words (digs t.st)) false,.vec (t.rs.map ruP) false,.vec (t.nv.map cuC) false,.vec (t.gl.map cuC) false]
theorem Z2O (t:PB):pureL (pbR t):=⟨trivial,Zf _,trivial,Z1l _,Z13 _,Z13 _,trivial⟩
theorem Z17 (t:PB) (S:List Nat):pureL (pbP t S):=⟨trivial,Zw _ _,Zc _,ZX _,Z1c _,Z1c _,trivial⟩
theorem PbOk.nv64 {t:PB} (h:PbOk t):∀ c∈t.nv,Ok64 c:=fun c hc=>(h.nv c hc).1.lt h.n.2
theorem PbOk.gl64 {t:PB} (h:PbOk t):∀ c∈t.gl,Ok64 c:=fun c hc=>(h.gl c hc).1.lt h.n.2
set_option maxHeartbeats 1000000 in
theorem Z9C {t:PB} (h:PbOk t) (s:Nat) (hs:s<18446744073709551616):Spec Tryz.prog 19 [.agg (pbR t),.val (.int .u64 (s:Int))] (· = .val (.bool (goodB t s))):=by
 have hc:=Z26 t.l false h.good.small s hs
 have hso:=Z5T t.nv false (clo t.l s) h.nv64 (Z4R _ _)
 have e:goodB t s = !soC t.nv (clo t.l s):=rfl
 rw [e]
 refine Z4 ok19 (Nat.le_of_ble_eq_true rfl) fun C hC=>?_
 refine Zk ?_
 refine Zb ?_
 refine Z6 rfl rfl rfl ?_
 (repeat'(first|refine Z2 10 ?_|refine Z0 10 ?_|refine st ?_|(apply B<;>intro hb<;>try cases hb)))<;>try refine At.mk ?_
 refine Zx hc rfl rfl rfl ⟨Zf _,trivial,trivial⟩ ?_
 (repeat'(first|refine Z2 11 ?_|refine Z0 11 ?_|refine st ?_|(apply B<;>intro hb<;>try cases hb)))<;>try refine At.mk ?_
 refine Zx hso rfl rfl rfl ⟨Z13 _,trivial,trivial⟩ ?_
 generalize soC t.nv (clo t.l s)=b
 cases b
 all_goals
  (refine go ?_;repeat' (apply B<;>intro hb<;>try cases hb))
  exact Z8 rfl trivial rfl
set_option maxHeartbeats 1000000 in
theorem Z8q {t:PB} (h:PbOk t) (s:Nat) (hs:s<18446744073709551616):Spec Tryz.prog 21 [.agg (pbR t),.val (.int .u64 (s:Int))] (· = .val (.bool (reachB t s))):=by
 have hc:=Z26 t.l false h.good.small s hs
 have hso:=Z5T t.gl false (clo t.l s) h.gl64 (Z4R _ _)
 have e:reachB t s=soC t.gl (clo t.l s):=rfl
 rw [e]
 refine Z4 ok21 (Nat.le_of_ble_eq_true rfl) fun C hC=>?_
 refine Zk ?_
 refine Zb ?_
 refine Z6 rfl rfl rfl ?_
 (repeat'(first|refine Z2 10 ?_|refine Z0 10 ?_|refine st ?_|(apply B<;>intro hb<;>try cases hb)))<;>try refine At.mk ?_
 refine Zx hc rfl rfl rfl ⟨Zf _,trivial,trivial⟩ ?_
 (repeat'(first|refine Z2 11 ?_|refine Z0 11 ?_|refine st ?_|(apply B<;>intro hb<;>try cases hb)))<;>try refine At.mk ?_
 refine Zx hso rfl rfl rfl ⟨Z13 _,trivial,trivial⟩ ?_
 generalize soC t.gl (clo t.l s)=b
 cases b
 all_goals
  (refine go ?_;repeat' (apply B<;>intro hb<;>try cases hb))
  exact Z8 rfl trivial rfl
set_option maxHeartbeats 1000000 in
theorem ZbP {t:PB} (h:PbOk t) (S:List Nat) (s:Nat) (hs:s<18446744073709551616):Spec Tryz.prog 83 [.agg (pbP t S),setN s] (· = .val (.bool (goodB t s))):=by
 have hc:=Z2n t.l S s hs
 have hso:=Z1x t.nv false (clo t.l s) h.nv64 (Z4R _ _)
 have e:goodB t s = !soC t.nv (clo t.l s):=rfl
 rw [e]
 refine Z4 ok83 (Nat.le_of_ble_eq_true rfl) fun C hC=>?_
 refine Zk ?_
 refine Zb ?_
 refine Z6 rfl rfl rfl ?_
 refine Z6 rfl rfl rfl ?_
 (repeat'(first|refine Z2 14 ?_|refine Z0 14 ?_|refine st ?_|(apply B<;>intro hb<;>try cases hb)))<;>try refine At.mk ?_
 refine Z2o rfl ?_
 refine Zx hc rfl rfl rfl ⟨Zw _ _,Z3 _,trivial⟩ ?_
 (repeat'(first|refine Z2 15 ?_|refine Z0 15 ?_|refine st ?_|(apply B<;>intro hb<;>try cases hb)))<;>try refine At.mk ?_
 refine Z2o rfl ?_
 refine Zx hso rfl rfl rfl ⟨Z1c _,Z3 _,trivial⟩ ?_
 generalize soC t.nv (clo t.l s)=b
 cases b
 all_goals
  (refine go ?_;repeat' (apply B<;>intro hb<;>try cases hb))
  exact Z8 rfl trivial rfl
set_option maxHeartbeats 1000000 in
theorem Z9D {t:PB} (h:PbOk t) (S:List Nat) (s:Nat) (hs:s<18446744073709551616):Spec Tryz.prog 44 [.agg (pbP t S),setN s] (· = .val (.bool (reachB t s))):=by
 have hc:=Z2n t.l S s hs
 have hso:=Z1x t.gl false (clo t.l s) h.gl64 (Z4R _ _)
 have e:reachB t s=soC t.gl (clo t.l s):=rfl
 rw [e]
 refine Z4 ok44 (Nat.le_of_ble_eq_true rfl) fun C hC=>?_
 refine Zk ?_
 refine Zb ?_
 refine Z6 rfl rfl rfl ?_
 refine Z6 rfl rfl rfl ?_
 (repeat'(first|refine Z2 14 ?_|refine Z0 14 ?_|refine st ?_|(apply B<;>intro hb<;>try cases hb)))<;>try refine At.mk ?_
 refine Z2o rfl ?_
 refine Zx hc rfl rfl rfl ⟨Zw _ _,Z3 _,trivial⟩ ?_
 (repeat'(first|refine Z2 15 ?_|refine Z0 15 ?_|refine st ?_|(apply B<;>intro hb<;>try cases hb)))<;>try refine At.mk ?_
 refine Z2o rfl ?_
 refine Zx hso rfl rfl rfl ⟨Z1c _,Z3 _,trivial⟩ ?_
 generalize soC t.gl (clo t.l s)=b
 cases b
 all_goals
  (refine go ?_;repeat' (apply B<;>intro hb<;>try cases hb))
  exact Z8 rfl trivial rfl
theorem Z1d (N:Nat) (hN:N<18446744073709551616) (i:Nat):Spec Tryz.prog 64 [setN N,.val (.int .i64 (i:Int))] (· = .val (.bool (N.testBit i))):=by
 have:=Z1q N hN (i:Int)
 rwa [decide_eq_true (show (0:Int)≤(i:Int) by omega),Bool.true_and,Int.toNat_natCast] at this
theorem Zdv (c:Cu):lowL (cuC c)=cuC c:=by
 show [PV.vec (lowLL (words (digs c.1))) false,PV.vec (lowLL (words (digs c.2))) false]=_
 rw [ZY,ZY]
 rfl
set_option maxHeartbeats 4000000 in
theorem Z6R (a b:Cu) (ha:Ok64 a) (hb0:Ok64 b):Spec Tryz.prog 76 [cuP a,cuP b] (· = .vec ((minC a b).map cuC) false):=by
 have hN:b.1 ||| b.2<18446744073709551616:=Z1X hb0.1 hb0.2
 refine Z4 ok76 (Nat.le_of_ble_eq_true rfl) fun C hC=>?_
 refine Zk ?_
 refine Zb ?_
 (first|refine st ?_|(apply B<;>intro hb<;>try cases hb))
 refine Z6 rfl rfl rfl ?_
 (refine go ?_;repeat' (apply B<;>intro hb<;>try cases hb))
 refine Z7 (Z16 a ha) rfl rfl rfl ⟨Zp a,trivial⟩ rfl ?_
 unfold minC
 cases he:emC a
 case true =>
  (refine go ?_;repeat' (apply B<;>intro hb<;>try cases hb))
  exact Z1g rfl (Z2c rfl) rfl
 rw [if_neg (by decide)]
 (refine go ?_;repeat' (apply B<;>intro hb<;>try cases hb))
 refine Z7 (Z6J a b ha hb0) rfl rfl rfl ⟨Zp a,Zp b,trivial⟩ rfl ?_
 generalize hme:meC a b=me
 obtain⟨mc,mb⟩:=me
 cases mb
 case false =>
  (refine go ?_;repeat' (apply B<;>intro hb<;>try cases hb))
  refine Z1g rfl ?_ ?_
  · show pureLL [lowL (cuC a)]
    rw [Zdv]; exact⟨Zj a,trivial⟩
  · show PV.vec [lowL (cuC a)] false = _
    rw [Zdv]; rfl
 rw [if_pos rfl]
 (refine go ?_;repeat' (apply B<;>intro hb<;>try cases hb))
 refine Zd (ZO (id:=2) (i0:=0) (j0:=0) rfl (by decide) (by decide) rfl 2 (by decide) (by decide)) ?_
 refine Z7 (Z1S b.1 b.2 hb0.1 hb0.2) rfl rfl rfl ⟨Z3 _,Z3 _,trivial⟩ rfl ?_
 refine Z7 (Z1Q (b.1 ||| b.2)) rfl rfl rfl ⟨Z3 _,trivial⟩ rfl ?_
 (refine go ?_;repeat' (apply B<;>intro hb<;>try cases hb))
 refine Z2J (X:=Cu×List Cu) hC (caps := [.cp [.vec (words (digs (b.1 ||| b.2))) false]]) [(2,.ptr 0 0 0),(3,.cp (cuC b)),(7,.ptr 2 0 0),(26,.fn 130 [.cp [.vec (words (digs (b.1 ||| b.2))) false]])] (fun z => [(0,⟨2,[cuC z.1]⟩),(2,⟨1,[[.own 3]]⟩),(3,⟨2,z.2.map cuC⟩)]) rfl ⟨⟨Zc _,trivial⟩,trivial⟩ (Z2M (b.1 ||| b.2) hN) (fun _=>rfl)
  (fun ex pre z=>ex=.normal∧z=minF a b (pre.map (·.val))) 4 (Nat.zero_le _) (a,[]) ⟨rfl,rfl⟩ (Z45 hC (Nat.zero_le _) ⟨⟨rfl,show (0:Nat)<4 by decide⟩,⟨rfl,Zi _ _,Zi _ _,trivial⟩,⟨rfl,show (2:Nat)<4 by decide⟩,⟨rfl,⟨Zi _ _,trivial⟩,trivial⟩,trivial⟩ ⟨⟨by decide,rfl,⟨Zi _ _,Zi _ _,trivial⟩,trivial⟩,⟨by decide,rfl,⟨show (3:Nat)<4 by decide,trivial⟩,trivial⟩,⟨by decide,rfl,trivial⟩,trivial⟩)
  (fun z q hq=>by simp at hq; rcases hq with rfl|rfl|rfl<;>exact Nat.zero_lt_succ _) _ (fun x=>rfl) ?_ ?_ ?_
 · rintro C2 hC2 pre x z ⟨-, rfl⟩ hlen
   have hr64:x.val<64:=Z2y x.2
   have hm:=Z27 (b.1 ||| b.2)
   obtain⟨hz1,hz2,hz3⟩:=Z9y (b:=b) ha (l:=pre.map (·.val)) (fun r hr=>by obtain⟨y,_,rfl⟩:=List.mem_map.1 hr; exact Z2y y.2)
   rw [List.length_map] at hz3
   have hnext:minF a b ((pre ++ [x]).map (·.val))=minS b (minF a b (pre.map (·.val))) x.val:=by simp [minF,List.foldl_append]
   generalize minF a b (pre.map (·.val))=z at *
   obtain⟨c,out⟩:=z
   dsimp only at hz1 hz2 hz3 ⊢
   have hlen1:out.length≤64:=by omega
   unfold minS at hnext
   dsimp only at hnext
   refine Z42 ?_
   refine Z42 ?_
   refine Zfh hC2 True 4 [(2,.ptr 0 0 0),(3,.cp (cuC b)),(7,.ptr 2 0 0),(8,.val (.int .i64 (x.val:Int))),(26,.fn 130 [.cp [.vec (words (digs (b.1 ||| b.2))) false]]),(28,.val (.bool (b.1.testBit x.val && !c.1.testBit x.val)))] [(0,⟨2,[cuC c]⟩),(2,⟨1,[[.own 3]]⟩),(3,⟨2,out.map cuC⟩)] (Nat.le_refl _) ?_ fun _=>?_
   · have fin : ∀ D, innLL D (out.map cuC) := fun D => Zm (fun _ h => h.elim) _ (Zg Zj out)
     (refine go ?_;repeat' (apply B<;>intro hb<;>try cases hb))
     refine Z7 (Z1d b.1 hb0.1 x.val) rfl rfl rfl ⟨Z3 _,trivial,trivial⟩ rfl ?_
     generalize b.1.testBit x.val=v1
     cases v1
     · (refine go ?_;repeat' (apply B<;>intro hb<;>try cases hb))
       exact⟨trivial,⟨⟨rfl,show (0:Nat)<4 by decide⟩,⟨rfl,Zi _ _,Zi _ _,trivial⟩,⟨rfl,show (2:Nat)<4 by decide⟩,⟨rfl,trivial⟩,⟨rfl,⟨Zi _ _,trivial⟩,trivial⟩,⟨rfl,trivial⟩,trivial⟩,⟨⟨by decide,rfl,⟨Zi _ _,Zi _ _,trivial⟩,trivial⟩,⟨by decide,rfl,⟨show (3:Nat)<4 by decide,trivial⟩,trivial⟩,⟨by decide,rfl,fin _⟩,trivial⟩⟩
     · (refine go ?_;repeat' (apply B<;>intro hb<;>try cases hb))
       refine Z7 (Z1d c.1 hz1.1 x.val) rfl rfl rfl ⟨Z3 _,trivial,trivial⟩ rfl ?_
       refine gv ?_
       exact⟨trivial,⟨⟨rfl,show (0:Nat)<4 by decide⟩,⟨rfl,Zi _ _,Zi _ _,trivial⟩,⟨rfl,show (2:Nat)<4 by decide⟩,⟨rfl,trivial⟩,⟨rfl,⟨Zi _ _,trivial⟩,trivial⟩,⟨rfl,trivial⟩,trivial⟩,⟨⟨by decide,rfl,⟨Zi _ _,Zi _ _,trivial⟩,trivial⟩,⟨by decide,rfl,⟨show (3:Nat)<4 by decide,trivial⟩,trivial⟩,⟨by decide,rfl,fin _⟩,trivial⟩⟩
   generalize (b.1.testBit x.val && !c.1.testBit x.val)=v at hnext
   cases v
   · rw [if_neg (by decide)] at hnext
     (refine go ?_;repeat' (apply B<;>intro hb<;>try cases hb))
     refine Z7 (Z1d b.2 hb0.2 x.val) rfl rfl rfl ⟨Z3 _,trivial,trivial⟩ rfl ?_
     generalize b.2.testBit x.val=v2 at hnext
     cases v2
     · rw [if_neg (by simp)] at hnext
       (refine go ?_;repeat' (apply B<;>intro hb<;>try cases hb))
       exact⟨.inl rfl,(c,out),fun i=>i,⟨rfl,hnext.symm⟩,fun i hi=>absurd hi (by omega),Zo,⟨⟨_,rfl,.ptr (ρ:=fun i=>i) 0 0 0 (by decide)⟩,⟨_,rfl,.pure _ (Zj b)⟩,⟨_,rfl,.ptr (ρ:=fun i=>i) 2 0 0 (by decide)⟩,⟨_,rfl,.pure _ ⟨⟨Zc _,trivial⟩,trivial⟩⟩,trivial⟩,⟨⟨by decide,_,rfl,.same _ ⟨Zj c,trivial⟩⟩,⟨by decide,_,rfl,RenB.single ⟨.own (ρ:=fun i=>i) 3 (by decide),trivial⟩ rfl⟩,⟨by decide,_,rfl,.same _ (Zg Zj out)⟩,trivial⟩⟩
     · (refine go ?_;repeat' (apply B<;>intro hb<;>try cases hb))
       refine Z7 (Z1d c.2 hz1.2 x.val) rfl rfl rfl ⟨Z3 _,trivial,trivial⟩ rfl ?_
       generalize c.2.testBit x.val=v3 at hnext
       cases v3
       · rw [if_pos (by decide)] at hnext
         (refine go ?_;repeat' (apply B<;>intro hb<;>try cases hb))
         refine Zx (Z1y c.1 hz1.1 x.val hr64) rfl rfl rfl ⟨Z3 _,trivial,trivial⟩ ?_
         (refine go ?_;repeat' (apply B<;>intro hb<;>try cases hb))
         refine Zs (Zu (k:=3) (m := [cuC (c.1 ||| 2 ^ x.val,c.2)]) (fl:=true) rfl rfl rfl (fun q hq=>by rw [List.mem_singleton] at hq; subst hq; rfl) rfl (by
          show ((out.map cuC).length+1)*48≤_
          rw [List.length_map];omega)) rfl rfl ?_
         (refine go ?_;repeat' (apply B<;>intro hb<;>try cases hb))
         refine Z7 (Z1y c.2 hz1.2 x.val hr64) rfl rfl rfl ⟨Z3 _,trivial,trivial⟩ rfl ?_
         (refine go ?_;repeat' (apply B<;>intro hb<;>try cases hb))
         refine⟨.inl rfl,((c.1,c.2 ||| 2 ^ x.val),out ++ [(c.1 ||| 2 ^ x.val,c.2)]),mv 3 13,⟨rfl,hnext.symm⟩,fun i hi=>absurd hi (by omega),ZA rfl,⟨⟨_,rfl,.ptr (ρ:=mv 3 13) 0 0 0 (by decide)⟩,⟨_,rfl,.pure _ (Zj b)⟩,⟨_,rfl,.ptr (ρ:=mv 3 13) 2 0 0 (by decide)⟩,⟨_,rfl,.pure _ ⟨⟨Zc _,trivial⟩,trivial⟩⟩,trivial⟩,⟨⟨by decide,_,rfl,.same _ ⟨Zj (c.1,c.2 ||| 2 ^ x.val),trivial⟩⟩,⟨by decide,_,rfl,RenB.single ⟨.own (ρ:=mv 3 13) 3 (by decide),trivial⟩ rfl⟩,⟨by decide,_,rfl,?_⟩,trivial⟩⟩
         show RenB _ _ ⟨2,out.map cuC ++ [cuC (c.1 ||| 2 ^ x.val,c.2)]⟩ ⟨2,(out ++ [(c.1 ||| 2 ^ x.val,c.2)]).map cuC⟩
         rw [List.map_append]
         exact .same _ (by rw [← List.map_singleton,← List.map_append]; exact Zg Zj _)
       · rw [if_neg (by simp)] at hnext
         (refine go ?_;repeat' (apply B<;>intro hb<;>try cases hb))
         exact⟨.inl rfl,(c,out),fun i=>i,⟨rfl,hnext.symm⟩,fun i hi=>absurd hi (by omega),Zo,⟨⟨_,rfl,.ptr (ρ:=fun i=>i) 0 0 0 (by decide)⟩,⟨_,rfl,.pure _ (Zj b)⟩,⟨_,rfl,.ptr (ρ:=fun i=>i) 2 0 0 (by decide)⟩,⟨_,rfl,.pure _ ⟨⟨Zc _,trivial⟩,trivial⟩⟩,trivial⟩,⟨⟨by decide,_,rfl,.same _ ⟨Zj c,trivial⟩⟩,⟨by decide,_,rfl,RenB.single ⟨.own (ρ:=fun i=>i) 3 (by decide),trivial⟩ rfl⟩,⟨by decide,_,rfl,.same _ (Zg Zj out)⟩,trivial⟩⟩
   · rw [if_pos rfl] at hnext
     (refine go ?_;repeat' (apply B<;>intro hb<;>try cases hb))
     refine Zx (Z1y c.2 hz1.2 x.val hr64) rfl rfl rfl ⟨Z3 _,trivial,trivial⟩ ?_
     (refine go ?_;repeat' (apply B<;>intro hb<;>try cases hb))
     refine Zs (Zu (k:=3) (m := [cuC (c.1,c.2 ||| 2 ^ x.val)]) (fl:=true) rfl rfl rfl (fun q hq=>by rw [List.mem_singleton] at hq; subst hq; rfl) rfl (by
      show ((out.map cuC).length+1)*48≤_
      rw [List.length_map];omega)) rfl rfl ?_
     (refine go ?_;repeat' (apply B<;>intro hb<;>try cases hb))
     refine Z7 (Z1y c.1 hz1.1 x.val hr64) rfl rfl rfl ⟨Z3 _,trivial,trivial⟩ rfl ?_
     (refine go ?_;repeat' (apply B<;>intro hb<;>try cases hb))
     refine⟨.inl rfl,((c.1 ||| 2 ^ x.val,c.2),out ++ [(c.1,c.2 ||| 2 ^ x.val)]),mv 3 13,⟨rfl,hnext.symm⟩,fun i hi=>absurd hi (by omega),ZA rfl,⟨⟨_,rfl,.ptr (ρ:=mv 3 13) 0 0 0 (by decide)⟩,⟨_,rfl,.pure _ (Zj b)⟩,⟨_,rfl,.ptr (ρ:=mv 3 13) 2 0 0 (by decide)⟩,⟨_,rfl,.pure _ ⟨⟨Zc _,trivial⟩,trivial⟩⟩,trivial⟩,⟨⟨by decide,_,rfl,.same _ ⟨Zj (c.1 ||| 2 ^ x.val,c.2),trivial⟩⟩,⟨by decide,_,rfl,RenB.single ⟨.own (ρ:=mv 3 13) 3 (by decide),trivial⟩ rfl⟩,⟨by decide,_,rfl,?_⟩,trivial⟩⟩
     show RenB _ _ ⟨2,out.map cuC ++ [cuC (c.1,c.2 ||| 2 ^ x.val)]⟩ ⟨2,(out ++ [(c.1,c.2 ||| 2 ^ x.val)]).map cuC⟩
     rw [List.map_append]
     exact .same _ (by rw [← List.map_singleton,← List.map_append]; exact Zg Zj _)
 · rintro xs z hS ⟨-, rfl⟩
   rw [hS]
   repeat' (first|refine Zd (Zr (k:=82) rfl rfl (Zg Zj _)) ?_|(first|refine st ?_|(apply B<;>intro hb<;>try cases hb)))
   exact Z8 rfl (Zg Zj _) rfl
 · rintro ex pre z - ⟨rfl,-⟩ (h|⟨id,h⟩)<;>cases h
theorem Z4U (l:List Pr) (S:List Nat) (k:Nat) (h1:1≤k) (hk:k<64):Spec Tryz.prog 141 [hierP l S,.val (.int .i64 (k:Int))] (· = setN (sen l k)):=by
 have h2:=Z9s l S (k:Int)
 rw [if_pos ⟨by omega,by omega⟩] at h2
 have h3:=Z35 (abv l k) (Nat.le_trans (Z2x (Z5A l k)) (by decide)) (k:Int)
 rw [withN,if_pos ⟨by omega,by omega⟩] at h3
 refine Z4 ok141 (Nat.le_of_ble_eq_true rfl) fun C hC=>?_
 (refine go ?_;repeat' (apply B<;>intro hb<;>try cases hb))
 refine Z7 (Z5Z k h1 hk) rfl rfl rfl ⟨trivial,trivial⟩ rfl ?_
 (refine go ?_;repeat' (apply B<;>intro hb<;>try cases hb))
 refine Z7 h2 rfl rfl rfl ⟨Z12 l S,trivial,trivial⟩ rfl ?_
 (refine go ?_;repeat' (apply B<;>intro hb<;>try cases hb))
 refine Z7 h3 rfl rfl rfl ⟨Z3 _,trivial,trivial⟩ rfl ?_
 (refine go ?_;repeat' (apply B<;>intro hb<;>try cases hb))
 exact Z8 rfl (Z3 _) rfl
theorem Z2P:∀ l:List Cu,lowLL (l.map cuC)=l.map cuC
 | []=>rfl
 | c :: l => by
   show lowL (cuC c) :: lowLL (l.map cuC)=_
   rw [Zdv,Z2P l]; rfl
def splT (l:List Cu) (c:Cu) (i:Nat):List Cu:=(l.take i).foldl splS (if emC c then [] else [c])
theorem Zdw (l:List Cu) (c:Cu) {i:Nat} (hi:i<l.length):splT l c (i+1)=splS (splT l c i) l[i]:=by
 unfold splT
 rw [List.take_add_one,List.getElem?_eq_getElem hi,List.foldl_append]; rfl
theorem Zdx {m:Nat} (hm:m<64) {l:List Cu} {c:Cu} (hl:∀ b∈l,InM m b) (hc:InM m c) (i:Nat):Dis (splT l c i)∧∀ c'∈splT l c i,InM m c':=by
 refine Zdp (N:=64) hm (by omega) _ (fun b hb=>hl b (List.mem_of_mem_take hb)) _ ?_ ?_
 · split
   · exact⟨(fun c hc=>by cases hc),List.Pairwise.nil⟩
   · rename_i h
     exact⟨fun c hc=>by rw [List.mem_singleton] at hc; subst hc; simpa using h,List.pairwise_singleton ..⟩
 · intro c' hc'
   split at hc'
   · cases hc'
   · rw [List.mem_singleton] at hc'; subst hc'; exact hc
def splI (out:List Cu) (b:Cu) (j:Nat):List Cu:=splS (out.take j) b
theorem Zdy (out:List Cu) (b:Cu) {j:Nat} (hj:j<out.length):splI out b (j+1)=splI out b j++minC out[j] b:=by
 unfold splI splS
 rw [List.take_add_one,List.getElem?_eq_getElem hj,List.flatMap_append]
 simp
theorem ZeV {out:List Cu} {b:Cu} {m:Nat} (hm:m<64) (h:Dis out∧∀ c∈out,InM m c) (hb:InM m b) (j:Nat):(splI out b j).length≤64:=by
 have h1:Dis (out.take j):=⟨fun c hc=>h.1.1 c (List.mem_of_mem_take hc),h.1.2.sublist (List.take_sublist _ _)⟩
 exact Z9B (ZaM h1 (hb.lt (by omega))) (m:=m) (Z9A (fun c hc=>h.2 c (List.mem_of_mem_take hc)) hb) hm
set_option maxHeartbeats 4000000 in
theorem ZbQ (l:List Cu) (fl:Bool) (c:Cu) (m:Nat) (hm:m<64) (hl:∀ b∈l,InM m b) (hc:InM m c) (hlen:l.length≤100000):Spec Tryz.prog 104 [cuP c,.vec (l.map cuC) fl] (· = .tup [.vec ((splL l c).map cuC) false,.val (.int .i64 0)]):=by
 have hnl:(l.map cuC).length=l.length:=by simp
 have hlp:∀ (l:List Cu) D,innLL D (l.map cuC):=fun i D=>Zm (fun _ h=>h.elim) _ (Z1 _)
 have hc64:=hc.lt (by omega)
 refine Z4 ok104 (Nat.le_of_ble_eq_true rfl) fun C hC=>?_
 refine Zk ?_
 refine Zb ?_
 refine Z6 rfl rfl rfl ?_
 iterate 7 (first|refine st ?_|(apply B<;>intro hb<;>try cases hb))
 refine ZcP hC (X:=Bool) (fun _=>True) 0 (fun z => [(1,.vec (l.map cuC) fl),(6,.vec ((splT l c 0).map cuC) z)]) (fun _=>[]) (Nat.zero_le _) ?_ fun z _=>?_
 · (refine go ?_;repeat' (apply B<;>intro hb<;>try cases hb))
   refine Z7 (Z16 c hc64) rfl rfl rfl ⟨Zp c,trivial⟩ rfl ?_
   unfold splT
   rw [List.take_zero,List.foldl_nil]
   cases he:emC c
   · (repeat'(first|refine Z2 18 ?_|refine Z0 18 ?_|refine st ?_|(apply B<;>intro hb<;>try cases hb)))<;>try refine At.mk ?_
     refine Z6 (ZcD (l := []) (m := [cuC c]) rfl rfl (fun c hc=>by cases hc) (fun q hq=>by rw [List.mem_singleton] at hq; subst hq; rfl) (by show (0+1)*48≤_; decide)) rfl rfl ?_
     (refine go ?_;repeat' (apply B<;>intro hb<;>try cases hb))
     exact⟨_,trivial,⟨⟨rfl,hlp _ _⟩,⟨rfl,hlp [c] _⟩,trivial⟩,trivial⟩
   · (refine go ?_;repeat' (apply B<;>intro hb<;>try cases hb))
     exact⟨_,trivial,⟨⟨rfl,hlp _ _⟩,⟨rfl,trivial⟩,trivial⟩,trivial⟩
 · have hloop := Zdx hm hl hc
   (refine go ?_;repeat' (apply B<;>intro hb<;>try cases hb))
   refine ZF hC (fun (x:Nat×Bool)=>x.1≤l.length) (fun x=>l.length-x.1) 0 (fun x => [(6,.vec ((splT l c x.1).map cuC) x.2),(19,.vec (l.map cuC) fl),(20,.val (.int .i64 (l.length:Int))),(21,.val (.int .i64 (x.1:Int)))]) (fun _=>[]) (Nat.le_refl _) (0,z) (Nat.zero_le _)
    ⟨⟨rfl,hlp _ _⟩,⟨rfl,hlp _ _⟩,⟨by rw [← hnl]; rfl,trivial⟩,⟨rfl,trivial⟩,trivial⟩ trivial ?_
   rintro⟨i,z⟩ hi
   dsimp only at hi ⊢
   have hinc:IntKind.i64.wrap ((i:Int)+1)=((i+1:Nat):Int):=IntWalk.i64_in _ ⟨by omega,by omega⟩
   iterate 2 (first|refine st ?_|(apply B<;>intro hb<;>try cases hb))
   refine Zl rfl rfl rfl (fun hb=>?_) (fun hb=>?_)
   · have hil : i < l.length := by have := of_decide_eq_true hb; omega
     clear hb
     have hsucc:=Zdw l c hil
     obtain⟨hD,hI⟩:=hloop i
     generalize splT l c i=out at hsucc hD hI ⊢
     have hb:=hl l[i] (List.getElem_mem hil)
     have hb64:=hb.lt (by omega)
     have hol:out.length≤64:=Z9B hD hI hm
     have hsub:=ZeV (out:=out) hm ⟨hD,hI⟩ hb
     have hnl2:(out.map cuC).length=out.length:=by simp
     (refine go ?_;repeat' (apply B<;>intro hb<;>try cases hb))
     refine Z5 (Zn (xs:=l) rfl rfl i rfl hil rfl) rfl rfl ?_
     repeat' (first|refine Zd (ZG (k:=9) rfl 2 (by decide)) ?_|(first|refine st ?_|(apply B<;>intro hb<;>try cases hb)))
     refine ZJ hC (fun (j:Nat)=>j≤out.length) (fun j=>out.length-j) 2 (fun j => [(8,.ptr 0 0 0),(9,.own 1),(19,.vec (l.map cuC) fl),(20,.val (.int .i64 (l.length:Int))),(21,.val (.int .i64 (i:Int))),(25,.vec (out.map cuC) z),(26,.val (.int .i64 (out.length:Int))),(27,.val (.int .i64 (j:Int)))])
      (fun j => [(0,⟨2,[cuC l[i]]⟩),(1,⟨2,(splI out l[i] j).map cuC⟩)]) (by decide) 0 (Nat.zero_le _) (fun i=>i) (fun _ _=>rfl) Zo
      ⟨⟨_,rfl,.ptr 0 0 0 (by decide)⟩,⟨_,rfl,.own 1 (by decide)⟩,⟨_,rfl,.pure _ (Z1 _)⟩,⟨_,rfl,.pure _ trivial⟩,⟨_,rfl,.pure _ trivial⟩,⟨_,rfl,.pure _ (Z1 _)⟩,⟨_,by rw [← hnl2]; rfl,.pure _ trivial⟩,⟨_,rfl,.pure _ trivial⟩,trivial⟩ ⟨⟨by decide,_,rfl,.same _ ⟨Zj _,trivial⟩⟩,⟨by decide,_,rfl,.same _ trivial⟩,trivial⟩ ?_
     intro j hj
     have hinc2:IntKind.i64.wrap ((j:Int)+1)=((j+1:Nat):Int):=IntWalk.i64_in _ ⟨by omega,by omega⟩
     iterate 2 (first|refine st ?_|(apply B<;>intro hb<;>try cases hb))
     refine Zl rfl rfl rfl (fun hb=>?_) (fun hb=>?_)
     · have hjl : j < out.length := by have := of_decide_eq_true hb; omega
       clear hb
       have hs2:=Zdy out l[i] hjl
       have hx:=(hI _ (List.getElem_mem hjl)).lt (by omega)
       have hml:=ZaI out[j] l[i] hx
       have hsl:=hsub j
       (refine go ?_;repeat' (apply B<;>intro hb<;>try cases hb))
       refine Z5 (Zn (xs:=out) rfl rfl j rfl hjl rfl) rfl rfl ?_
       (refine go ?_;repeat' (apply B<;>intro hb<;>try cases hb))
       refine Z7 (Z6R out[j] l[i] hx hb64) rfl rfl rfl ⟨Zp _,Zp _,trivial⟩ rfl ?_
       refine ZE (Zu (k:=1) (m:=(minC out[j] l[i]).map cuC) (fl:=false) rfl rfl rfl (fun q hq=>by obtain⟨x,_,rfl⟩:=List.mem_map.1 hq; rfl) rfl (by
        show (((splI out l[i] j).map cuC).length+((minC out[j] l[i]).map cuC).length)*48≤_
        rw [List.length_map,List.length_map];omega)) rfl rfl ?_
       (refine go ?_;repeat' (apply B<;>intro hb<;>try cases hb))
       refine⟨j+1,mv 1 3,hjl,by omega,fun i hi=>absurd hi (Nat.not_lt_zero i),ZA rfl,
        ⟨⟨_,rfl,.ptr (ρ:=mv 1 3) 0 0 0 (by decide)⟩,⟨_,rfl,.own (ρ:=mv 1 3) 1 (by decide)⟩,⟨_,rfl,.pure _ (Z1 _)⟩,⟨_,rfl,.pure _ trivial⟩,⟨_,rfl,.pure _ trivial⟩,⟨_,rfl,.pure _ (Z1 _)⟩,⟨_,rfl,.pure _ trivial⟩,⟨_,by show some _=some _; rw [hinc2],.pure _ trivial⟩,trivial⟩,
        ⟨⟨by decide,_,rfl,.same _ ⟨Zj _,trivial⟩⟩,⟨by decide,_,rfl,?_⟩,trivial⟩⟩
       show RenB _ _ ⟨2,(splI out l[i] j).map cuC++(minC out[j] l[i]).map cuC⟩ ⟨2,(splI out l[i] (j+1)).map cuC⟩
       rw [← List.map_append,← hs2]
       exact .same _ (Z1 _)
     · have hjl : j = out.length := by have := of_decide_eq_false hb; omega
       subst hjl
       clear hb
       have hend:splI out l[i] out.length=splT l c (i+1):=by rw [hsucc]; unfold splI; rw [List.take_length]
       have hle:=hsub out.length
       rw [hend] at hle ⊢
       repeat' (first|refine Zd (Zr (k:=9) rfl rfl (Z1 _)) ?_|refine Z2 39 ?_|(first|refine st ?_|(apply B<;>intro hb<;>try cases hb)))
       refine At.mk ?_
       refine Z5 (Za (v:=false) rfl (by simp;omega)) rfl rfl ?_
       (refine go ?_;repeat' (apply B<;>intro hb<;>try cases hb))
       exact⟨(i+1,false),by show i+1≤_; omega,by show _-(i+1)<_-i; omega,⟨⟨rfl,hlp _ _⟩,⟨rfl,hlp _ _⟩,⟨rfl,trivial⟩,⟨by show some _=some _; rw [hinc],trivial⟩,trivial⟩,trivial⟩
   · have hil : i = l.length := by have := of_decide_eq_false hb; omega
     subst hil
     clear hb
     (refine go ?_;repeat' (apply B<;>intro hb<;>try cases hb))
     have he:splT l c l.length=splL l c:=by unfold splT splL; rw [List.take_length]
     rw [he]
     refine Z1g rfl ⟨?_,trivial,trivial⟩ ?_
     · show pureLL (lowLL ((splL l c).map cuC))
       rw [Z2P]; exact Z1 _
     · show PV.tup [.vec (lowLL ((splL l c).map cuC)) false, _] = _
       rw [Z2P]; rfl
set_option maxHeartbeats 2000000 in
theorem Z4I (k:Nat) (h1:1≤k) (h2:k≤64):Spec Tryz.prog 66 [.val (.int .i64 (k:Int))] (· = setN (2 ^ k-1)):=by
 refine Z4 ok66 (Nat.le_of_ble_eq_true rfl) fun C hC=>?_
 have hq:IntKind.i64.wrap (((k+63:Nat):Int).tdiv 64)=((1:Nat):Int):=by
  rw [IntWalk.i64_quo _ _ ⟨by omega,by omega,by omega⟩]; omega
 (repeat'(first|refine Z2 6 ?_|refine Z0 6 ?_|refine st ?_|(apply B<;>intro hb<;>try cases hb)))<;>try refine At.mk ?_
 refine Zv rfl rfl rfl (v:=(k:Int)) (by split<;>omega) ?_
 refine Zv rfl rfl rfl (v:=(k:Int)) (by split<;>omega) ?_
 (repeat'(first|refine Z2 9 ?_|refine Z0 9 ?_|refine st ?_|(apply B<;>intro hb<;>try cases hb)))<;>try refine At.mk ?_
 refine Zv rfl rfl rfl (show IntKind.i64.wrap ((k:Int)+63)=((k+63:Nat):Int) from IntWalk.i64_in _ ⟨by omega,by omega⟩) ?_
 (repeat'(first|refine Z2 10 ?_|refine Z0 10 ?_|refine st ?_|(apply B<;>intro hb<;>try cases hb)))<;>try refine At.mk ?_
 refine Zv rfl rfl rfl hq ?_
 (refine go ?_;repeat' (apply B<;>intro hb<;>try cases hb))
 refine Z1B 1 ?_
 (repeat'(first|refine Z2 22 ?_|refine Z0 22 ?_|refine st ?_|(apply B<;>intro hb<;>try cases hb)))<;>try refine At.mk ?_
 by_cases hk:k=64
 · subst hk
   repeat' (first|refine Zd (Zr (k:=33) rfl rfl (ZT rfl)) ?_|(first|refine st ?_|(apply B<;>intro hb<;>try cases hb)))
   exact Z8 rfl (Z2c rfl) (by rw [Z2L (by decide) (by decide)]; rfl)
 · have hr : (k : Int).tmod 64 = ((k : Nat) : Int) := by rw [Int.tmod_eq_emod_of_nonneg (by omega)]; omega
   refine Zv rfl rfl rfl hr ?_
   refine Z5 (Za (v:=true) rfl (by simp;omega)) rfl rfl ?_
   (repeat'(first|refine Z2 29 ?_|refine Z0 29 ?_|refine st ?_|(apply B<;>intro hb<;>try cases hb)))<;>try refine At.mk ?_
   refine Zv rfl rfl rfl hr ?_
   refine Z5 (ZcC rfl rfl (by omega) (v:=((2 ^ k:Nat):Int)) (by
    rw [show min ((k:Int)).toNat IntKind.u64.bits=k by simp [IntKind.bits]; omega]
    have hp:=ZL (show k<64 by omega)
    rw [Int.one_mul,show (2:Int) ^ k=((2 ^ k:Nat):Int) by simp]
    exact IntWalk.u64_in _ ⟨Int.natCast_nonneg _,Int.ofNat_le.2 (show _≤18446744073709551615 by omega)⟩)) rfl rfl ?_
   refine Zv rfl rfl rfl (v:=((2 ^ k-1:Nat):Int)) (by
    have hp:=ZL (show k<64 by omega)
    have:=Nat.two_pow_pos k
    rw [show ((2 ^ k:Nat):Int)-1=((2 ^ k-1:Nat):Int) by omega]
    exact IntWalk.u64_in _ ⟨Int.natCast_nonneg _,Int.ofNat_le.2 (show _≤18446744073709551615 by omega)⟩) ?_
   have hp:=ZL (show k<64 by omega)
   have hp2:2≤2 ^ k:=Nat.pow_le_pow_right (n:=2) (by decide) h1
   repeat' (first|refine Zd (Zr (k:=33) rfl rfl (ZT rfl)) ?_|(first|refine st ?_|(apply B<;>intro hb<;>try cases hb)))
   exact Z8 rfl (Z2c rfl) (by rw [Z2L (by omega) (by omega)]; rfl)
theorem Z7E {N M:Nat} (hN:N<18446744073709551616):N &&& M<18446744073709551616:=Nat.lt_of_le_of_lt Nat.and_le_left hN
theorem ZeW (a b:Nat) (ha:a<18446744073709551616) (hb:b<18446744073709551616):bits .and .u64 (a:Int) (b:Int)=((a &&& b:Nat):Int):=by
 have h1:(BitVec.ofInt 64 (a:Int)).toNat=a:=by rw [BitVec.ofInt_natCast,BitVec.toNat_ofNat]; exact Nat.mod_eq_of_lt (by omega)
 have h2:(BitVec.ofInt 64 (b:Int)).toNat=b:=by rw [BitVec.ofInt_natCast,BitVec.toNat_ofNat]; exact Nat.mod_eq_of_lt (by omega)
 show IntKind.u64.wrap ((BitVec.ofInt 64 (a:Int) &&& BitVec.ofInt 64 (b:Int)).toNat:Int)=_
 rw [BitVec.toNat_and,h1,h2]
 have:a &&& b≤a:=Nat.and_le_left
 exact IntWalk.u64_in _ ⟨by omega,by omega⟩
set_option maxHeartbeats 2000000 in
theorem Z8r (N M:Nat) (hN:N<18446744073709551616) (hM:M<18446744073709551616):Spec Tryz.prog 142 [setN N,setN M] (· = setN (N &&& M)):=by
 have hlt:=Z7E (M:=M) hN
 rcases Z19 hN with⟨rfl,e1⟩|⟨h1,e1⟩<;>rcases Z19 hM with⟨rfl,e2⟩|⟨h2,e2⟩<;>rw [e1]<;>(try rw [e2])<;>clear e1 e2
 all_goals
  refine Z4 ok142 (Nat.le_of_ble_eq_true rfl) fun C hC=>?_
  refine Zk ?_
  refine Zb ?_
  refine Z6 rfl rfl rfl ?_
  refine Z6 rfl rfl rfl ?_
  (refine go ?_;repeat' (apply B<;>intro hb<;>try cases hb))
  refine Z1B 1 ?_
 case inr.inr =>
  (repeat'(first|refine Z2 32 ?_|refine Z0 32 ?_|refine st ?_|(apply B<;>intro hb<;>try cases hb)))<;>try refine At.mk ?_
  refine Zs (Z44 rfl (ZeW N M hN hM)) rfl rfl ?_
  repeat' (first|refine Zd (Zr (k:=35) rfl rfl (ZT rfl)) ?_|(first|refine st ?_|(apply B<;>intro hb<;>try cases hb)))
  refine ZC rfl rfl (Z49 [N &&& M]) (Z15 rfl) rfl fun r hr=>?_
  have hw:Words [N &&& M]:=fun x hx=>by rw [List.mem_singleton.1 hx]; exact hlt
  have e1:=hr.set hw
  have e2:ofW [N &&& M]=N &&& M:=by simp [ofW]
  rw [e2] at e1
  subst e1
  (refine go ?_;repeat' (apply B<;>intro hb<;>try cases hb))
  exact Z8 rfl (Z3 _) rfl
 all_goals
  repeat' (first|refine Zd (Zr (k:=35) rfl rfl (ZT rfl)) ?_|(first|refine st ?_|(apply B<;>intro hb<;>try cases hb)))
  refine ZC rfl rfl (Z49 []) (Z15 rfl) rfl fun r hr=>?_
  have e1:=hr.set (fun x hx=>by cases hx)
  subst e1
  (refine go ?_;repeat' (apply B<;>intro hb<;>try cases hb))
  exact Z8 rfl (Z3 _) (show setN (ofW [])=_ by simp [ofW])
theorem ZgQ {l:List Pr} {m:Nat} (hl:∀ p∈l,p.1≤m∧p.2≤m) {a b:Nat} (h:Up l a b):a≤m∧b≤m:=by
 induction h with
 | one h=>exact hl _ h
 | more _ k ih=>exact⟨ih.1,(hl _ k).2⟩
theorem bit62 {i:Nat} (h1:1≤i) (h2:i≤5):(62:Nat).testBit i=true:=by
 have:i=1 ∨ i=2 ∨ i=3 ∨ i=4 ∨ i=5:=by omega
 rcases this with rfl|rfl|rfl|rfl|rfl<;>rfl
theorem ZaP {i:Nat} (h:(62:Nat).testBit i=true):1≤i∧i≤5:=by
 have:=Z4P (N:=62) (by decide) h
 have hi:i<6:=Nat.lt_of_not_le fun h6=>by
  rw [Nat.testBit_lt_two_pow (show 62<2 ^ i from Nat.lt_of_lt_of_le (by decide) (Nat.pow_le_pow_right (by decide) h6))] at h; cases h
 refine⟨Nat.one_le_iff_ne_zero.2 fun h0=>?_,by omega⟩
 subst h0; cases h
theorem Zfs {t:PB} (h:PbOk t) {r:Nat} (hr:r≤5):(sen t.l r &&& mkN t.n) ||| 62=62:=orSub.2 fun i hi=>by
 rw [Nat.testBit_and,Bool.and_eq_true,Z2g,Bool.and_eq_true,decide_eq_true_eq,decide_eq_true_eq] at hi
 refine bit62 hi.2.1 ?_
 rcases (Z3S h.good.small r i).1 hi.1 with h1|h1
 · exact (ZgQ (m:=5) (fun p hp=>(h.lk p hp).2.2) h1).1
 · omega
def One62 (N:Nat) (l:List Cu):Prop:=∀ c∈l,c.1 ||| 62=62∧c.2=N
theorem Z9E {N:Nat} {l:List Cu} (h:One62 N l) (hn:l.Nodup):l.length≤64:=by
 have hnd:(l.map (·.1)).Nodup:=by
  rw [List.nodup_iff_pairwise_ne,List.pairwise_map]
  refine List.Pairwise.imp_of_mem (fun {a b} ha hb hab e=>hab ?_) (List.nodup_iff_pairwise_ne.1 hn)
  exact Prod.ext e ((h a ha).2.trans (h b hb).2.symm)
 have:=Z23 64 _ hnd fun x hx=>by
  obtain⟨c,hc,rfl⟩:=List.mem_map.1 hx
  have:c.1≤62:=by have:=(h c hc).1; rw [← this]; exact Nat.left_le_or
  omega
 rwa [List.length_map] at this
theorem Z9F {t:PB} (h:PbOk t) {r:Nat} (hr:r≤5) {N:Nat} {x:List Cu} (hx:One62 N x):One62 N (exX t.l t.n r x):=fun c hc=>by
 obtain⟨y,hy,hc⟩:=List.mem_flatMap.1 hc
 obtain⟨a,ha,rfl⟩:=List.mem_map.1 hc
 refine⟨orSub.2 fun i hi=>?_,(hx y hy).2⟩
 rw [Nat.testBit_or,Bool.or_eq_true,Nat.testBit_two_pow,decide_eq_true_eq] at hi
 rcases hi with hi|rfl
 · exact orSub.1 (hx y hy).1 i hi
 · exact orSub.1 (Zfs h hr) _ ((Z1h (Z3c h.n.2)).1 ha)
theorem ZaQ {N:Nat} {l:List Cu} (h:One62 N l):One62 N (simL l):=fun c hc=>h c (Z1J hc).1
theorem ZaR {N:Nat} (hN:N<18446744073709551616) {l:List Cu} (h:One62 N l):∀ c∈l,Ok64 c:=fun c hc=>by
 have:c.1≤62:=by have:=(h c hc).1; rw [← this]; exact Nat.left_le_or
 exact⟨by omega,by rw [(h c hc).2]; exact hN⟩
theorem Zdz (l:List Pr) {n:Nat} (hn:n≤63) (rs:List Nat):exN l n rs<18446744073709551616:=by
 have:∀ (rs:List Nat) (o:Nat),o<18446744073709551616→rs.foldl (fun o r=>o ||| (sen l r &&& mkN n)) o<18446744073709551616:=by
  intro rs
  induction rs with
  | nil=>exact fun o h=>h
  | cons r rs ih=>exact fun o h=>ih _ (Z1X h (Z3c hn))
 exact this _ 0 (by decide)
theorem Zgw {t:PB} (h:PbOk t) {rs:List Nat} (hr:∀ r∈rs,r≤5):exN t.l t.n rs ||| 62=62:=orSub.2 fun i hi=>by
 rcases (Z5Y t.l t.n i rs 0).1 hi with h1|⟨r,hr',h1,h2⟩
 · simp at h1
 · exact orSub.1 (Zfs h (hr r hr')) i (by rw [Nat.testBit_and,h1,h2]; rfl)
theorem Z9G {t:PB} (h:PbOk t) {N:Nat} (hN:N<18446744073709551616):∀ (rs:List Nat),(∀ r∈rs,r≤5)→∀ x,One62 N x→x.Nodup→One62 N (exF t.l t.n rs x)∧(exF t.l t.n rs x).Nodup
 | [],_,x,h1,h2=>⟨h1,h2⟩
 | r :: rs,hr,x,h1,h2=>Z9G h hN rs (fun a ha=>hr a (List.mem_cons_of_mem _ ha)) _ (ZaQ (Z9F h (hr r (List.mem_cons_self ..)) h1)) (Z3v (ZaR hN (Z9F h (hr r (List.mem_cons_self ..)) h1)))
theorem InM.le5 {c:Cu} (h:InM 62 c):(∀ r∈mem c.1,1≤r∧r≤5)∧∀ r∈mem c.2,1≤r∧r≤5:=by
 have h64:=h.lt (by decide)
 exact⟨fun r hr=>ZaP (orSub.1 h.1 r ((Z1h h64.1).1 hr)),fun r hr=>ZaP (orSub.1 h.2 r ((Z1h h64.2).1 hr))⟩
theorem Z6S {t:PB} (h:PbOk t) {c:Cu} (hm:InM 62 c):One62 (exN t.l t.n (mem c.2)) (exL t.l t.n c)∧(exL t.l t.n c).Nodup∧(exL t.l t.n c).length≤64∧∀ c'∈exL t.l t.n c,InM 62 c':=by
 have h1:=Z9G h (Zdz t.l h.n.2 (mem c.2)) (mem c.1) (fun r hr=>(hm.le5.1 r hr).2) [(0,exN t.l t.n (mem c.2))] (fun c hc=>by rw [List.mem_singleton] at hc; subst hc; exact⟨(by decide:(0:Nat) ||| 62=62),rfl⟩) (by simp)
 refine⟨h1.1,h1.2,Z9E h1.1 h1.2,fun c' hc'=>⟨(h1.1 c' hc').1,?_⟩⟩
 rw [(h1.1 c' hc').2]
 exact Zgw h fun r hr=>(hm.le5.2 r hr).2
theorem Z9H (l:List Pr) (n r:Nat):∀ x:List Cu,(exX l n r x).length≤64*x.length
 | []=>by simp [exX]
 | y :: x => by
   have ih:=Z9H l n r x
   have:exX l n r (y :: x)=(mem (sen l r &&& mkN n)).map (fun a=>(y.1 ||| 2 ^ a,y.2))++exX l n r x:=by simp [exX]
   rw [this,List.length_append,List.length_map,List.length_cons]
   have:=Z27 (sen l r &&& mkN n)
   omega
theorem Z4n (n:Nat) (hn:n≤63):withoutN (2 ^ (n+1)-1) 0=mkN n:=by
 refine Nat.eq_of_testBit_eq fun i=>?_
 have hp:2 ^ (n+1)≤2 ^ 64:=Nat.pow_le_pow_right (by decide) (by omega)
 have:=Z2V (N:=2 ^ (n+1)-1) (by have:=Nat.two_pow_pos (n+1);omega) 0 i
 rw [show ((0:Nat):Int)=0 from rfl] at this
 rw [this,Nat.testBit_two_pow_sub_one,Z2g,Bool.eq_iff_iff]
 simp
 omega
set_option maxHeartbeats 8000000 in
theorem Z4o {t:PB} (h:PbOk t) (S:List Nat) (c:Cu) (hc:InC t.n c) (hm:InM 62 c):Spec Tryz.prog 101 [.agg (pbP t S),cuP c] (· = .tup [.vec ((exL t.l t.n c).map cuC) false,.val (.int .i64 0)]):=by
 have hc64:=hm.lt (by decide)
 have hn:=h.n
 have hp1:2 ^ (t.n+1)≤2 ^ 64:=Nat.pow_le_pow_right (by decide) (by omega)
 have hp0:=Nat.two_pow_pos (t.n+1)
 have hmk:=Z3F hn.2
 have hinc0:IntKind.i64.wrap ((t.n:Int)+1)=((t.n+1:Nat):Int):=IntWalk.i64_in _ ⟨by omega,by omega⟩
 have hbw:=Z1F (2 ^ (t.n+1)-1) (by omega) 0
 rw [Z4n t.n hn.2] at hbw
 have hwi:=Z1t (c.1 ||| c.2) (mkN t.n) (Z1X hc64.1 hc64.2) hmk
 rw [decide_eq_true (show c.1 ||| c.2 ||| mkN t.n=mkN t.n by rw [Nat.or_assoc,hc.n,hc.y])] at hwi
 refine Z4 ok101 (Nat.le_of_ble_eq_true rfl) fun C hC=>?_
 refine Zk ?_
 refine Zb ?_
 refine Z6 rfl rfl rfl ?_
 refine Z6 rfl rfl rfl ?_
 (repeat'(first|refine Z2 20 ?_|refine Z0 20 ?_|refine st ?_|(apply B<;>intro hb<;>try cases hb)))<;>try refine At.mk ?_
 refine Zv rfl rfl rfl hinc0 ?_
 refine Z7 (Z4I (t.n+1) (by omega) (by omega)) rfl rfl rfl ⟨trivial,trivial⟩ rfl ?_
 refine Z7 hbw rfl rfl rfl ⟨Z3 _,trivial,trivial⟩ rfl ?_
 (repeat'(first|refine Z2 27 ?_|refine Z0 27 ?_|refine st ?_|(apply B<;>intro hb<;>try cases hb)))<;>try refine At.mk ?_
 refine Zx (Z1S c.1 c.2 hc64.1 hc64.2) rfl rfl rfl ⟨Z3 _,Z3 _,trivial⟩ ?_
 (repeat'(first|refine Z2 29 ?_|refine Z0 29 ?_|refine st ?_|(apply B<;>intro hb<;>try cases hb)))<;>try refine At.mk ?_
 refine Zx hwi rfl rfl rfl ⟨Z3 _,Z3 _,trivial⟩ ?_
 (repeat'(first|refine Z2 33 ?_|refine Z0 33 ?_|refine st ?_|(apply B<;>intro hb<;>try cases hb)))<;>try refine At.mk ?_
 refine Z7 (Z1Q c.2) rfl rfl rfl ⟨Z3 _,trivial⟩ rfl ?_
 (refine go ?_;repeat' (apply B<;>intro hb<;>try cases hb))
 have hpp:=Z17 t S
 have hI0:=hm.le5
 refine Z2J (X:=List Nat) hC (caps := [.cp [.vec (words (digs c.2)) false]]) [(2,.cp (pbP t S)),(3,.cp (cuC c)),(4,.ptr 0 0 0),(5,.ptr 1 0 0),(6,.ptr 2 0 0),(7,.ptr 11 0 0),(33,.fn 130 [.cp [.vec (words (digs c.2)) false]])]
  (fun z => [(0,⟨1,[[.vec [] true]]⟩),(1,⟨1,[[.val (.int .i64 0)]]⟩),(2,⟨1,[[.vec (words (digs (mkN t.n))) false]]⟩),(11,⟨1,[[.vec (words (digs (exN t.l t.n z))) false]]⟩)]) rfl ⟨⟨Zc _,trivial⟩,trivial⟩ (Z2M c.2 hc64.2) (fun _=>rfl)
  (fun ex pre z=>ex=.normal∧z=pre.map (·.val)) 12 (by decide) [] ⟨rfl,rfl⟩
  (Z3m (EnvQ.mem (ρ := fun i => i) (m := 12) (L := [(2, .cp (pbP t S)), (3, .cp (cuC c)), (4, .ptr 0 0 0), (5, .ptr 1 0 0), (6, .ptr 2 0 0), (7, .ptr 11 0 0), (33, .fn 130 [.cp [.vec (words (digs c.2)) false]])]) ⟨⟨_, rfl, .pure _ hpp⟩, ⟨_, rfl, .pure _ (Zj c)⟩, ⟨_, rfl, .ptr (ρ := fun i => i) 0 0 0 (by decide)⟩, ⟨_, rfl, .ptr (ρ := fun i => i) 1 0 0 (by decide)⟩, ⟨_, rfl, .ptr (ρ := fun i => i) 2 0 0 (by decide)⟩, ⟨_, rfl, .ptr (ρ := fun i => i) 11 0 0 (by decide)⟩, ⟨_, rfl, .pure _ ⟨⟨Zc _, trivial⟩, trivial⟩⟩, trivial⟩)
    (HeapQ.mem (ρ:=fun i=>i) (m:=12) (L := [(0,⟨1,[[.vec [] true]]⟩),(1,⟨1,[[.val (.int .i64 0)]]⟩),(2,⟨1,[[.vec (words (digs (mkN t.n))) false]]⟩),(11,⟨1,[[.vec (words (digs (exN t.l t.n []))) false]]⟩)]) ⟨⟨by decide,_,rfl,.same _ ⟨⟨trivial,trivial⟩,trivial⟩⟩,⟨by decide,_,rfl,.same _ ⟨⟨trivial,trivial⟩,trivial⟩⟩,⟨by decide,_,rfl,.same _ ⟨⟨Zc _,trivial⟩,trivial⟩⟩,⟨by decide,⟨1,[[.vec [] true]]⟩,rfl,by rw [show exN t.l t.n []=0 from rfl,ZD]; exact RenB.single (ρ:=fun i=>i) (l0 := [.vec [] true]) (l := [.vec [] false]) (show RenLs _ _ [_] [_] from ⟨.low (.vec [] true) trivial,trivial⟩) rfl⟩,trivial⟩) hC (by decide))
  (fun z q hq=>by simp at hq; rcases hq with rfl|rfl|rfl|rfl<;>exact Nat.zero_lt_succ _) _ (fun x=>rfl) ?_ ?_ ?_
 · rintro C2 hC2 pre x z ⟨-, rfl⟩ hlen
   have hx:=hI0.2 x.val x.2
   have hst:exN t.l t.n (pre.map (·.val) ++ [x.val])=exN t.l t.n (pre.map (·.val)) ||| (sen t.l x.val &&& mkN t.n):=by unfold exN; rw [List.foldl_append]; rfl
   have hz:=Zdz t.l hn.2 (pre.map (·.val))
   have hsl:=Zfo t.l h.good.small (show x.val<64 by omega)
   (repeat'(first|refine Z2 39 ?_|refine Z0 39 ?_|refine st ?_|(apply B<;>intro hb<;>try cases hb)))<;>try refine At.mk ?_
   refine Zx (Z4U t.l S x.val hx.1 (by omega)) rfl rfl rfl ⟨Zw _ _,trivial,trivial⟩ ?_
   (repeat'(first|refine Z2 41 ?_|refine Z0 41 ?_|refine st ?_|(apply B<;>intro hb<;>try cases hb)))<;>try refine At.mk ?_
   refine Zx (Z8r (sen t.l x.val) (mkN t.n) hsl hmk) rfl rfl rfl ⟨Z3 _,Z3 _,trivial⟩ ?_
   refine Zx (Z1S _ _ hz (Z7E hsl)) rfl rfl rfl ⟨Z3 _,Z3 _,trivial⟩ ?_
   rw [← hst]
   (refine go ?_;repeat' (apply B<;>intro hb<;>try cases hb))
   exact⟨.inl rfl,pre.map (·.val) ++ [x.val],fun i=>i,⟨rfl,by rw [List.map_append]; rfl⟩,fun i hi=>rfl,Zo,
    ⟨⟨_,rfl,.pure _ hpp⟩,⟨_,rfl,.pure _ (Zj c)⟩,⟨_,rfl,.ptr (ρ:=fun i=>i) 0 0 0 (by decide)⟩,⟨_,rfl,.ptr (ρ:=fun i=>i) 1 0 0 (by decide)⟩,⟨_,rfl,.ptr (ρ:=fun i=>i) 2 0 0 (by decide)⟩,⟨_,rfl,.ptr (ρ:=fun i=>i) 11 0 0 (by decide)⟩,⟨_,rfl,.pure _ ⟨⟨Zc _,trivial⟩,trivial⟩⟩,trivial⟩,
    ⟨⟨by decide,_,rfl,.same _ ⟨⟨trivial,trivial⟩,trivial⟩⟩,⟨by decide,_,rfl,.same _ ⟨⟨trivial,trivial⟩,trivial⟩⟩,⟨by decide,_,rfl,.same _ ⟨⟨Zc _,trivial⟩,trivial⟩⟩,⟨by decide,_,rfl,.same _ ⟨⟨Zc _,trivial⟩,trivial⟩⟩,trivial⟩⟩
 · rintro xs z hxs ⟨-, rfl⟩
   rw [hxs]
   have hN0:=Zdz t.l hn.2 (mem c.2)
   generalize hN0e:exN t.l t.n (mem c.2)=N0 at hN0
   (repeat'(first|refine Z2 48 ?_|refine Z0 48 ?_|refine st ?_|(apply B<;>intro hb<;>try cases hb)))<;>try refine At.mk ?_
   refine Z7 (Z1Q c.1) rfl rfl rfl ⟨Z3 _,trivial⟩ rfl ?_
   (refine go ?_;repeat' (apply B<;>intro hb<;>try cases hb))
   have hlow:([(0,N0)]:List Cu).map cuC=lowLL [[.vec [] true,.vec (words (digs N0)) false]]:=by
    show [[PV.vec (words (digs 0)) false,.vec (words (digs N0)) false]] = [[PV.vec [] false,.vec (lowLL (words (digs N0))) false]]
    rw [ZD,ZY]; rfl
   have hone:∀ rs:List Nat,(∀ r∈rs,r≤5)→One62 N0 (exF t.l t.n rs [(0,N0)])∧(exF t.l t.n rs [(0,N0)]).Nodup:=fun rs hr=>Z9G h hN0 rs hr _ (fun c hc=>by rw [List.mem_singleton] at hc; subst hc; exact⟨(by decide:(0:Nat) ||| 62=62),rfl⟩) (by simp)
   refine Z2J (X:=List Nat) hC (caps := [.cp [.vec (words (digs c.1)) false]]) [(2,.cp (pbP t S)),(4,.ptr 0 0 0),(5,.ptr 1 0 0),(6,.ptr 2 0 0),(9,.ptr 12 0 0),(48,.fn 130 [.cp [.vec (words (digs c.1)) false]])]
    (fun z => [(0,⟨1,[[.vec [] true]]⟩),(1,⟨1,[[.val (.int .i64 0)]]⟩),(2,⟨1,[[.vec (words (digs (mkN t.n))) false]]⟩),(12,⟨1,[[.vec ((exF t.l t.n z [(0,N0)]).map cuC) false]]⟩)]) rfl ⟨⟨Zc _,trivial⟩,trivial⟩ (Z2M c.1 hc64.1) (fun _=>rfl)
    (fun ex pre z=>ex=.normal∧z=pre.map (·.val)) 13 (by decide) [] ⟨rfl,rfl⟩
    (Z3m (EnvQ.mem (ρ := fun i => i) (m := 13) (L := [(2, .cp (pbP t S)), (4, .ptr 0 0 0), (5, .ptr 1 0 0), (6, .ptr 2 0 0), (9, .ptr 12 0 0), (48, .fn 130 [.cp [.vec (words (digs c.1)) false]])]) ⟨⟨_, rfl, .pure _ hpp⟩, ⟨_, rfl, .ptr (ρ := fun i => i) 0 0 0 (by decide)⟩, ⟨_, rfl, .ptr (ρ := fun i => i) 1 0 0 (by decide)⟩, ⟨_, rfl, .ptr (ρ := fun i => i) 2 0 0 (by decide)⟩, ⟨_, rfl, .ptr (ρ := fun i => i) 12 0 0 (by decide)⟩, ⟨_, rfl, .pure _ ⟨⟨Zc _, trivial⟩, trivial⟩⟩, trivial⟩)
      (HeapQ.mem (ρ:=fun i=>i) (m:=13) (L := [(0,⟨1,[[.vec [] true]]⟩),(1,⟨1,[[.val (.int .i64 0)]]⟩),(2,⟨1,[[.vec (words (digs (mkN t.n))) false]]⟩),(12,⟨1,[[.vec (([(0,N0)]:List Cu).map cuC) false]]⟩)]) ⟨⟨by decide,_,rfl,.same _ ⟨⟨trivial,trivial⟩,trivial⟩⟩,⟨by decide,_,rfl,.same _ ⟨⟨trivial,trivial⟩,trivial⟩⟩,⟨by decide,_,rfl,.same _ ⟨⟨Zc _,trivial⟩,trivial⟩⟩,⟨by decide,_,rfl,by rw [hlow]; exact RenB.single (ρ:=fun i=>i) (l := [.vec (lowLL [[.vec [] true,.vec (words (digs N0)) false]]) false]) (show RenLs _ _ [_] [_] from ⟨.low (.vec [[.vec [] true,.vec (words (digs N0)) false]] true) (by show pureLL (lowLL _); rw [← hlow]; exact Z1 [(0,N0)]),trivial⟩) rfl⟩,trivial⟩) hC (by decide))
    (fun z q hq=>by simp at hq; rcases hq with rfl|rfl|rfl|rfl<;>exact Nat.zero_lt_succ _) _ (fun x=>rfl) ?_ ?_ ?_
   · rintro C2 hC2 pre x z ⟨-, rfl⟩ hlen
     have hx:=hI0.1 x.val x.2
     obtain⟨ho1,ho2⟩:=hone (pre.map (·.val)) fun r hr=>by obtain⟨y,_,rfl⟩:=List.mem_map.1 hr; exact (hI0.1 _ y.2).2
     have hst:exF t.l t.n (pre.map (·.val) ++ [x.val]) [(0,N0)]=simL (exX t.l t.n x.val (exF t.l t.n (pre.map (·.val)) [(0,N0)])):=by unfold exF; rw [List.foldl_append]; rfl
     generalize exF t.l t.n (pre.map (·.val)) [(0,N0)]=zs at ho1 ho2 hst ⊢
     have hzl:=Z9E ho1 ho2
     have hz64:=ZaR hN0 ho1
     have hsl:=Zfo t.l h.good.small (show x.val<64 by omega)
     have hM:=Z7E (M:=mkN t.n) hsl
     have hxo:=Z9F h hx.2 ho1
     have hxn:=Z3v (ZaR hN0 hxo)
     have hxl:=Z9E (ZaQ hxo) hxn
     have hxll:=Z9H t.l t.n x.val zs
     (repeat'(first|refine Z2 50 ?_|refine Z0 50 ?_|refine st ?_|(apply B<;>intro hb<;>try cases hb)))<;>try refine At.mk ?_
     refine Zd (ZO (id:=13) (i0:=0) (j0:=0) rfl (by decide) (by decide) rfl 2 (by decide) (by decide)) ?_
     (refine go ?_;repeat' (apply B<;>intro hb<;>try cases hb))
     have hnl:(zs.map cuC).length=zs.length:=by simp
     refine ZJ hC2 (fun (j:Nat)=>j≤zs.length) (fun j=>zs.length-j) 15
      (fun j => [(2,.cp (pbP t S)),(6,.ptr 2 0 0),(9,.ptr 12 0 0),(10,.val (.int .i64 (x.val:Int))),(11,.ptr 13 0 0),(50,.vec (zs.map cuC) false),(51,.val (.int .i64 (zs.length:Int))),(52,.val (.int .i64 (j:Int)))])
      (fun j => [(0,⟨1,[[.vec [] true]]⟩),(1,⟨1,[[.val (.int .i64 0)]]⟩),(2,⟨1,[[.vec (words (digs (mkN t.n))) false]]⟩),(12,⟨1,[[.vec (zs.map cuC) false]]⟩),(13,⟨1,[[.own 14]]⟩),(14,⟨2,(exX t.l t.n x.val (zs.take j)).map cuC⟩)]) (by decide) 0 (Nat.zero_le _) (fun i=>i) (fun _ _=>rfl) Zo
      ⟨⟨_,rfl,.pure _ hpp⟩,⟨_,rfl,.ptr (ρ:=fun i=>i) 2 0 0 (by decide)⟩,⟨_,rfl,.ptr (ρ:=fun i=>i) 12 0 0 (by decide)⟩,⟨_,rfl,.pure _ trivial⟩,⟨_,rfl,.ptr (ρ:=fun i=>i) 13 0 0 (by decide)⟩,⟨_,rfl,.pure _ (Z1 _)⟩,⟨_,by rw [← hnl]; rfl,.pure _ trivial⟩,⟨_,rfl,.pure _ trivial⟩,trivial⟩
      ⟨⟨by decide,_,rfl,.same _ ⟨⟨trivial,trivial⟩,trivial⟩⟩,⟨by decide,_,rfl,.same _ ⟨⟨trivial,trivial⟩,trivial⟩⟩,⟨by decide,_,rfl,.same _ ⟨⟨Zc _,trivial⟩,trivial⟩⟩,⟨by decide,_,rfl,.same _ ⟨⟨Z1 _,trivial⟩,trivial⟩⟩,⟨by decide,_,rfl,RenB.single ⟨.own (ρ:=fun i=>i) 14 (by decide),trivial⟩ rfl⟩,⟨by decide,_,rfl,.same _ trivial⟩,trivial⟩ ?_
     intro j hj
     have hinc:IntKind.i64.wrap ((j:Int)+1)=((j+1:Nat):Int):=IntWalk.i64_in _ ⟨by omega,by omega⟩
     iterate 2 (first|refine st ?_|(apply B<;>intro hb<;>try cases hb))
     refine Zl rfl rfl rfl (fun hb=>?_) (fun hb=>?_)
     · have hjl : j < zs.length := by have := of_decide_eq_true hb; omega
       clear hb
       have hy:=hz64 _ (List.getElem_mem hjl)
       have hsj:exX t.l t.n x.val (zs.take (j+1))=exX t.l t.n x.val (zs.take j)++(mem (sen t.l x.val &&& mkN t.n)).map fun a=>(zs[j].1 ||| 2 ^ a,zs[j].2):=by
        unfold exX
        rw [List.take_add_one,List.getElem?_eq_getElem hjl,List.flatMap_append]
        simp
       have hlj:(exX t.l t.n x.val (zs.take j)).length≤4096:=by
        have:=Z9H t.l t.n x.val (zs.take j)
        rw [List.length_take] at this
        omega
       generalize hy0:zs[j]=y at hy hsj
       generalize exX t.l t.n x.val (zs.take j)=acc at hsj hlj ⊢
       (refine go ?_;repeat' (apply B<;>intro hb<;>try cases hb))
       refine Z5 (Zn (xs:=zs) (g:=cuC) rfl rfl j rfl hjl rfl) rfl rfl ?_
       rw [hy0]
       (repeat'(first|refine Z2 59 ?_|refine Z0 59 ?_|refine st ?_|(apply B<;>intro hb<;>try cases hb)))<;>try refine At.mk ?_
       refine Zx (Z4U t.l S x.val hx.1 (by omega)) rfl rfl rfl ⟨Zw _ _,trivial,trivial⟩ ?_
       (repeat'(first|refine Z2 61 ?_|refine Z0 61 ?_|refine st ?_|(apply B<;>intro hb<;>try cases hb)))<;>try refine At.mk ?_
       refine Zx (Z8r (sen t.l x.val) (mkN t.n) hsl hmk) rfl rfl rfl ⟨Z3 _,Z3 _,trivial⟩ ?_
       generalize sen t.l x.val &&& mkN t.n=M at hM hsj ⊢
       refine Zx (Z1Q M) rfl rfl rfl ⟨Z3 _,trivial⟩ ?_
       (refine go ?_;repeat' (apply B<;>intro hb<;>try cases hb))
       refine Z2J (X:=List Nat) hC2 (caps := [.cp [.vec (words (digs M)) false]]) [(2,.cp (pbP t S)),(6,.ptr 2 0 0),(9,.ptr 12 0 0),(10,.val (.int .i64 (x.val:Int))),(11,.ptr 13 0 0),(13,.ptr 15 0 0),(50,.vec (zs.map cuC) false),(51,.val (.int .i64 (zs.length:Int))),(52,.val (.int .i64 (j:Int))),(62,.fn 130 [.cp [.vec (words (digs M)) false]])]
        (fun w => [(0,⟨1,[[.vec [] true]]⟩),(1,⟨1,[[.val (.int .i64 0)]]⟩),(2,⟨1,[[.vec (words (digs (mkN t.n))) false]]⟩),(12,⟨1,[[.vec (zs.map cuC) false]]⟩),(13,⟨1,[[.own 14]]⟩),(14,⟨2,(acc++w.map fun a=>(y.1 ||| 2 ^ a,y.2)).map cuC⟩),(15,⟨2,[cuC y]⟩)]) rfl ⟨⟨Zc _,trivial⟩,trivial⟩ (Z2M M hM) (fun _=>rfl)
        (fun ex pre z=>ex=.normal∧z=pre.map (·.val)) 23 (by decide) [] ⟨rfl,rfl⟩
        (Z3m (EnvQ.mem (ρ := fun i => i) (m := 23) (L := [(2, .cp (pbP t S)), (6, .ptr 2 0 0), (9, .ptr 12 0 0), (10, .val (.int .i64 (x.val : Int))), (11, .ptr 13 0 0), (13, .ptr 15 0 0), (50, .vec (zs.map cuC) false), (51, .val (.int .i64 (zs.length : Int))), (52, .val (.int .i64 (j : Int))), (62, .fn 130 [.cp [.vec (words (digs M)) false]])]) ⟨⟨_, rfl, .pure _ hpp⟩, ⟨_, rfl, .ptr (ρ := fun i => i) 2 0 0 (by decide)⟩, ⟨_, rfl, .ptr (ρ := fun i => i) 12 0 0 (by decide)⟩, ⟨_, rfl, .pure _ trivial⟩, ⟨_, rfl, .ptr (ρ := fun i => i) 13 0 0 (by decide)⟩, ⟨_, rfl, .ptr (ρ := fun i => i) 15 0 0 (by decide)⟩, ⟨_, rfl, .pure _ (Z1 _)⟩, ⟨_, rfl, .pure _ trivial⟩, ⟨_, rfl, .pure _ trivial⟩, ⟨_, rfl, .pure _ ⟨⟨Zc _, trivial⟩, trivial⟩⟩, trivial⟩)
          (HeapQ.mem (ρ:=fun i=>i) (m:=23) (L := [(0,⟨1,[[.vec [] true]]⟩),(1,⟨1,[[.val (.int .i64 0)]]⟩),(2,⟨1,[[.vec (words (digs (mkN t.n))) false]]⟩),(12,⟨1,[[.vec (zs.map cuC) false]]⟩),(13,⟨1,[[.own 14]]⟩),(14,⟨2,(acc++([]:List Nat).map fun a=>(y.1 ||| 2 ^ a,y.2)).map cuC⟩),(15,⟨2,[cuC y]⟩)]) ⟨⟨by decide,_,rfl,.same _ ⟨⟨trivial,trivial⟩,trivial⟩⟩,⟨by decide,_,rfl,.same _ ⟨⟨trivial,trivial⟩,trivial⟩⟩,⟨by decide,_,rfl,.same _ ⟨⟨Zc _,trivial⟩,trivial⟩⟩,⟨by decide,_,rfl,.same _ ⟨⟨Z1 _,trivial⟩,trivial⟩⟩,⟨by decide,_,rfl,RenB.single ⟨.own (ρ:=fun i=>i) 14 (by decide),trivial⟩ rfl⟩,⟨by decide,_,rfl,by rw [List.map_nil,List.append_nil]; exact .same _ (Z1 _)⟩,⟨by decide,_,rfl,.same _ ⟨Zj y,trivial⟩⟩,trivial⟩) hC2 (by decide))
        (fun z q hq=>by simp at hq; rcases hq with rfl|rfl|rfl|rfl|rfl|rfl|rfl<;>exact Nat.zero_lt_succ _) _ (fun x=>rfl) ?_ ?_ ?_
       · rintro C3 hC3 pre2 a w ⟨-, rfl⟩ hlen2
         have ha:=Z2y a.2
         have hml:=Z27 M
         have hsn:acc++(pre2.map (·.val) ++ [a.val]).map (fun a=>(y.1 ||| 2 ^ a,y.2))=(acc++(pre2.map (·.val)).map fun a=>(y.1 ||| 2 ^ a,y.2)) ++ [(y.1 ||| 2 ^ a.val,y.2)]:=by simp
         have hal:(acc++(pre2.map (·.val)).map fun a=>(y.1 ||| 2 ^ a,y.2)).length≤5000:=by simp; omega
         generalize (acc++(pre2.map (·.val)).map fun a=>(y.1 ||| 2 ^ a,y.2))=acc2 at hsn hal ⊢
         (repeat'(first|refine Z2 68 ?_|refine Z0 68 ?_|refine st ?_|(apply B<;>intro hb<;>try cases hb)))<;>try refine At.mk ?_
         refine Zx (Z1y y.1 hy.1 a.val ha) rfl rfl rfl ⟨Z3 _,trivial,trivial⟩ ?_
         (repeat'(first|refine Z2 73 ?_|refine Z0 73 ?_|refine st ?_|(apply B<;>intro hb<;>try cases hb)))<;>try refine At.mk ?_
         refine Zs (Zu (k:=14) (m := [cuC (y.1 ||| 2 ^ a.val,y.2)]) (fl:=true) rfl rfl rfl (fun q hq=>by rw [List.mem_singleton] at hq; subst hq; rfl) rfl (by
          show ((acc2.map cuC).length+1)*48≤_
          rw [List.length_map];omega)) rfl rfl ?_
         (refine go ?_;repeat' (apply B<;>intro hb<;>try cases hb))
         refine⟨.inl rfl,pre2.map (·.val) ++ [a.val],mv 14 32,⟨rfl,by rw [List.map_append]; rfl⟩,Z5w (by decide),ZA rfl,
          ⟨⟨_,rfl,.pure _ hpp⟩,⟨_,rfl,.ptr (ρ:=mv 14 32) 2 0 0 (by decide)⟩,⟨_,rfl,.ptr (ρ:=mv 14 32) 12 0 0 (by decide)⟩,⟨_,rfl,.pure _ trivial⟩,⟨_,rfl,.ptr (ρ:=mv 14 32) 13 0 0 (by decide)⟩,⟨_,rfl,.ptr (ρ:=mv 14 32) 15 0 0 (by decide)⟩,⟨_,rfl,.pure _ (Z1 _)⟩,⟨_,rfl,.pure _ trivial⟩,⟨_,rfl,.pure _ trivial⟩,⟨_,rfl,.pure _ ⟨⟨Zc _,trivial⟩,trivial⟩⟩,trivial⟩,?_⟩
         show HeapQ _ _ _ [_,_,_,_,_,(14,⟨2,(acc++(pre2.map (·.val) ++ [a.val]).map fun a=>(y.1 ||| 2 ^ a,y.2)).map cuC⟩),_]
         rw [hsn]
         refine⟨⟨by decide,_,rfl,.same _ ⟨⟨trivial,trivial⟩,trivial⟩⟩,⟨by decide,_,rfl,.same _ ⟨⟨trivial,trivial⟩,trivial⟩⟩,⟨by decide,_,rfl,.same _ ⟨⟨Zc _,trivial⟩,trivial⟩⟩,⟨by decide,_,rfl,.same _ ⟨⟨Z1 _,trivial⟩,trivial⟩⟩,⟨by decide,_,rfl,RenB.single ⟨.own (ρ:=mv 14 32) 14 (by decide),trivial⟩ rfl⟩,⟨by decide,_,rfl,?_⟩,⟨by decide,_,rfl,.same _ ⟨Zj y,trivial⟩⟩,trivial⟩
         show RenB _ _ ⟨2,acc2.map cuC ++ [cuC (y.1 ||| 2 ^ a.val,y.2)]⟩ ⟨2,(acc2 ++ [(y.1 ||| 2 ^ a.val,y.2)]).map cuC⟩
         rw [List.map_append]
         exact .same _ (by rw [← List.map_singleton,← List.map_append]; exact Z1 _)
       · rintro xs w hxs2 ⟨-, rfl⟩
         rw [hxs2]
         (refine go ?_;repeat' (apply B<;>intro hb<;>try cases hb))
         refine⟨j+1,fun i=>i,hjl,by omega,fun _ _=>rfl,Zo,
          ⟨⟨_,rfl,.pure _ hpp⟩,⟨_,rfl,.ptr (ρ:=fun i=>i) 2 0 0 (by decide)⟩,⟨_,rfl,.ptr (ρ:=fun i=>i) 12 0 0 (by decide)⟩,⟨_,rfl,.pure _ trivial⟩,⟨_,rfl,.ptr (ρ:=fun i=>i) 13 0 0 (by decide)⟩,⟨_,rfl,.pure _ (Z1 _)⟩,⟨_,rfl,.pure _ trivial⟩,⟨_,by show some _=some _; rw [hinc],.pure _ trivial⟩,trivial⟩,?_⟩
         show HeapQ _ _ _ [_,_,_,_,_,(14,⟨2,(exX t.l t.n x.val (zs.take (j+1))).map cuC⟩)]
         rw [hsj]
         exact⟨⟨by decide,_,rfl,.same _ ⟨⟨trivial,trivial⟩,trivial⟩⟩,⟨by decide,_,rfl,.same _ ⟨⟨trivial,trivial⟩,trivial⟩⟩,⟨by decide,_,rfl,.same _ ⟨⟨Zc _,trivial⟩,trivial⟩⟩,⟨by decide,_,rfl,.same _ ⟨⟨Z1 _,trivial⟩,trivial⟩⟩,⟨by decide,_,rfl,RenB.single ⟨.own (ρ:=fun i=>i) 14 (by decide),trivial⟩ rfl⟩,⟨by decide,_,rfl,.same _ (Z1 _)⟩,trivial⟩
       · rintro ex pre2 w - ⟨rfl,_⟩ (h|⟨id,h⟩)<;>cases h
     · have hjl : j = zs.length := by have := of_decide_eq_false hb; omega
       subst hjl
       clear hb
       rw [List.take_length]
       repeat' (first|refine Zd (Zr (k:=75) rfl rfl (Z1 _)) ?_|(first|refine st ?_|(apply B<;>intro hb<;>try cases hb)))
       refine Z7 (Z5V _ false (ZaR hN0 hxo) (by omega)) rfl rfl rfl ⟨Z1 _,trivial⟩ rfl ?_
       (repeat'(first|refine Z2 79 ?_|refine Z0 79 ?_|refine st ?_|(apply B<;>intro hb<;>try cases hb)))<;>try refine At.mk ?_
       refine Z5 (Za (v:=false) rfl (by simp;omega)) rfl rfl ?_
       (refine go ?_;repeat' (apply B<;>intro hb<;>try cases hb))
       refine⟨.inl rfl,pre.map (·.val) ++ [x.val],fun i=>i,⟨rfl,by rw [List.map_append]; rfl⟩,fun i hi=>rfl,Zo,
        ⟨⟨_,rfl,.pure _ hpp⟩,⟨_,rfl,.ptr (ρ:=fun i=>i) 0 0 0 (by decide)⟩,⟨_,rfl,.ptr (ρ:=fun i=>i) 1 0 0 (by decide)⟩,⟨_,rfl,.ptr (ρ:=fun i=>i) 2 0 0 (by decide)⟩,⟨_,rfl,.ptr (ρ:=fun i=>i) 12 0 0 (by decide)⟩,⟨_,rfl,.pure _ ⟨⟨Zc _,trivial⟩,trivial⟩⟩,trivial⟩,?_⟩
       show HeapQ _ _ _ [_,_,_,(12,⟨1,[[.vec ((exF t.l t.n (pre.map (·.val) ++ [x.val]) [(0,N0)]).map cuC) false]]⟩)]
       rw [hst]
       exact⟨⟨by decide,_,rfl,.same _ ⟨⟨trivial,trivial⟩,trivial⟩⟩,⟨by decide,_,rfl,.same _ ⟨⟨trivial,trivial⟩,trivial⟩⟩,⟨by decide,_,rfl,.same _ ⟨⟨Zc _,trivial⟩,trivial⟩⟩,⟨by decide,_,rfl,.same _ ⟨⟨Z1 _,trivial⟩,trivial⟩⟩,trivial⟩
   · rintro xs z hxs ⟨-, rfl⟩
     rw [hxs]
     have he:exF t.l t.n (mem c.1) [(0,N0)]=exL t.l t.n c:=by unfold exL; rw [hN0e]
     rw [he]
     (refine go ?_;repeat' (apply B<;>intro hb<;>try cases hb))
     exact Z8 rfl ⟨Z1 _,trivial,trivial⟩ rfl
   · rintro ex pre z - ⟨rfl,_⟩ (h|⟨id,h⟩)<;>cases h
 · rintro ex pre z - ⟨rfl,_⟩ (h|⟨id,h⟩)<;>cases h
theorem Zft {e:Env} {h:Heap} {n:Nat} {x y:Operand} {a b:Int} (hx:ev e x=some (.val (.int .i64 a))) (hy:ev e y=some (.val (.int .i64 b))) (hb:b≠0):dEval (.bin .rem .num x y) e h n=some (.val (.int .i64 (a.tmod b)),h):=by
 simp [dEval,hx,hy,pbin,sbin,hb]
theorem Z4p {α:Type} {f:α→List PV} (hf:∀ x,lowL (f x)=f x):∀ l:List α,lowLL (l.map f)=l.map f
 | []=>rfl
 | c :: l => by
   show lowL (f c) :: lowLL (l.map f)=_
   rw [hf,Z4p hf l]; rfl
structure MkOk (t:PB):Prop where
 ok:PbOk t
 n:2≤t.n∧t.n≤5
 rs:t.rs.length≤6
 nv:t.nv.length≤3
 gl:1≤t.gl.length∧t.gl.length≤3
structure LJ (n:Nat) (l:List Pr) (k:Nat):Prop where
 asc:SortedP l
 len:l.length≤k
 mem:∀ p∈l,1≤p.1∧p.1<p.2∧p.2≤n
theorem LJ.nil (n:Nat):LJ n [] 0:=⟨List.Pairwise.nil,Nat.le_refl _,fun _ h=>by cases h⟩
theorem LJ.mono {n:Nat} {l:List Pr} {k k':Nat} (h:LJ n l k) (hk:k≤k'):LJ n l k':=⟨h.asc,Nat.le_trans h.len hk,h.mem⟩
theorem LJ.step {n:Nat} {l:List Pr} {k a b:Nat} (h:LJ n l k) {l':List Pr} (hL:Linked l (a,b) l') (ha:1≤a) (hab:a<b) (hb:b≤n):LJ n l' (k+1) :=
 ⟨hL.sorted h.asc,Nat.le_trans hL.len (Nat.succ_le_succ h.len),fun p hp=>(hL.mem p hp).elim (h.mem p) fun e=>by subst e; exact⟨ha,hab,hb⟩⟩
theorem LJ.good {n:Nat} (hn:n≤5) {l:List Pr} {k:Nat} (h:LJ n l k):GoodL l :=
 ⟨h.asc,fun p hp=>by have:=h.mem p hp; omega,⟨fun i=>i,fun p hp=>(h.mem p hp).2.1⟩⟩
theorem Zgx {n:Nat} (h1:2≤n) (h2:n≤5):IntKind.u8.wrap (2*2 ^ (min ((n:Nat):Int).toNat IntKind.u8.bits))=((2*2 ^ n:Nat):Int)∧IntKind.u8.wrap (((2*2 ^ n:Nat):Int)-2)=((mkN n:Nat):Int)∧mkN n<64∧mkN n ||| 62=62:=by
 have:n=2 ∨ n=3 ∨ n=4 ∨ n=5:=by omega
 rcases this with rfl|rfl|rfl|rfl<;>decide
theorem Zg3 (X:Int) (m:Nat) (hm:m<256):∃ s:Nat,s ||| m=m∧bits .and .u8 X (m:Int)=(s:Int):=by
 refine⟨(BitVec.ofInt 8 X).toNat &&& m,Zds _ m,?_⟩
 rw [← Zfm _ _ (BitVec.ofInt 8 X).isLt hm]
 show IntKind.u8.wrap ((BitVec.ofInt 8 X &&& BitVec.ofInt 8 (m:Int)).toNat:Int)=IntKind.u8.wrap ((BitVec.ofInt 8 ((BitVec.ofInt 8 X).toNat:Int) &&& BitVec.ofInt 8 (m:Int)).toNat:Int)
 rw [show BitVec.ofInt 8 ((BitVec.ofInt 8 X).toNat:Int)=BitVec.ofInt 8 X by rw [BitVec.ofInt_natCast,BitVec.ofNat_toNat,BitVec.setWidth_eq]]
theorem Z2Q (a b:Nat):((a:Nat):Int).tmod ((b:Nat):Int)=((a % b:Nat):Int):=by rw [Int.ofNat_tmod]
theorem InM.inC {n:Nat} {c:Cu} (h:InM (mkN n) c) (he:emC c=false):InC n c:=⟨h.1,h.2,he⟩
theorem Z3w {a b c:Nat} (h1:a ||| b=b) (h2:b ||| c=c):a ||| c=c:=orSub.2 fun i hi=>orSub.1 h2 i (orSub.1 h1 i hi)
theorem RuOk.mk0 {n:Nat} (hn:n≤5) {c:Cu} {rev:Bool} {tg og:Nat} (hc:InM (mkN n) c) (h62:mkN n ||| 62=62) (he:emC c=false) (ht:1≤tg∧tg≤n) (hr:rev=true→c=(0,0)):RuOk n ⟨rev,c,tg,og⟩ :=
 ⟨hc.inC he,⟨Z3w hc.1 h62,Z3w hc.2 h62⟩,⟨ht.1,ht.2,by show tg≤5; omega⟩,hr⟩
set_option maxRecDepth 100000 in
set_option maxHeartbeats 16000000 in
theorem Z9I (p:List Nat) (fl:Bool) (hp:Bytes p):Spec Tryz.prog 46 [.vec (bys p) fl] fun r=>∃ t:PB,MkOk t∧r=.agg (pbR t):=by
 have hpl:∀ (l:List Pr) D,innLL D (l.map prC):=fun l D=>Zm (fun _ h=>h.elim) _ (Zf l)
 have hsi:∀ t D,innLL D (srcB p fl t).elems:=fun t D=>ZeI p fl t D
 refine Z4 ok46 (Nat.le_of_ble_eq_true rfl) fun C hC=>?_
 (repeat'(first|refine Z2 30 ?_|refine Z0 30 ?_|refine st ?_|(apply B<;>intro hb<;>try cases hb)))<;>try refine At.mk ?_
 refine ZZ (ZM p hp fl 0 (by omega)) rfl rfl rfl rfl (Zy p fl 0) trivial ?_
 rintro r b' - - ⟨v1,hv1,rfl,rfl⟩
 refine Zv rfl rfl rfl (Z2Q v1 4) ?_
 have hn4:=Nat.mod_lt v1 (show 0<4 by decide)
 refine Zv rfl rfl rfl (show IntKind.i64.wrap (2+((v1 % 4:Nat):Int))=((2+v1 % 4:Nat):Int) from by rw [IntWalk.i64_in _ ⟨by omega,by omega⟩];omega) ?_
 obtain⟨n,hn⟩:∃ n,2+v1 % 4=n:=⟨_,rfl⟩
 rw [hn]
 have hn2:2≤n∧n≤5:=by omega
 obtain⟨hm1,hm2,hm64,hm62⟩:=Zgx hn2.1 hn2.2
 clear hn hn4 hv1
 (repeat'(first|refine Z2 36 ?_|refine Z0 36 ?_|refine st ?_|(apply B<;>intro hb<;>try cases hb)))<;>try refine At.mk ?_
 refine Zv rfl rfl rfl (show IntKind.u64.wrap ((n:Nat):Int)=((n:Nat):Int) from IntWalk.u64_in _ ⟨by omega,by omega⟩) ?_
 refine Z56 rfl rfl (by omega) hm1 rfl ?_
 refine Zv rfl rfl rfl hm2 ?_
 (repeat'(first|refine Z2 40 ?_|refine Z0 40 ?_|refine st ?_|(apply B<;>intro hb<;>try cases hb)))<;>try refine At.mk ?_
 refine ZZ (ZM p hp fl 1 (by omega)) rfl rfl rfl rfl (Zy p fl 1) trivial ?_
 rintro r b' - - ⟨v2,hv2,rfl,rfl⟩
 (refine go ?_;repeat' (apply B<;>intro hb<;>try cases hb))
 refine ZF hC (fun (z:Nat×Nat×List Pr×Bool)=>1≤z.1∧z.1≤n∧z.2.1≤10*z.1∧LJ n z.2.2.1 z.2.1) (fun z=>n-z.1) 3 (fun z => [(2,.ptr 0 0 0),(3,.ptr 1 0 0),(4,.ptr 2 0 0),(5,.val (.int .u8 (mkN n:Nat))),(6,.val (.int .i64 (v2:Int))),(7,.val (.int .i64 (z.2.1:Int))),(8,.val (.int .i64 (z.1:Int)))])
  (fun z => [(0,⟨6,[zpv [.int .i64 0,.slice none 0 0,.int .u64 0,.slice none 0 0,.slice none 0 0,.slice none 0 0]]⟩),(1,srcB p fl 2),(2,⟨6,[[.val (.int .i64 (n:Int)),.vec (z.2.2.1.map prC) z.2.2.2,.val (.int .u64 0),.vec [] true,.vec [] true,.vec [] true]]⟩)]) (Nat.zero_le _) (1,0,[],true) ⟨Nat.le_refl _,by show 1≤n; omega,by show 0≤_; omega,LJ.nil n⟩
  ⟨⟨rfl,show (0:Nat)<3 by decide⟩,⟨rfl,show (1:Nat)<3 by decide⟩,⟨rfl,show (2:Nat)<3 by decide⟩,⟨rfl,trivial⟩,⟨rfl,trivial⟩,⟨rfl,trivial⟩,⟨rfl,trivial⟩,trivial⟩
  ⟨⟨by decide,rfl,⟨⟨trivial,trivial,trivial,trivial,trivial,trivial,trivial⟩,trivial⟩⟩,⟨by decide,rfl,hsi 2 _⟩,⟨by decide,rfl,⟨⟨trivial,trivial,trivial,trivial,trivial,trivial,trivial⟩,trivial⟩⟩,trivial⟩ ?_
 rintro⟨a,k,l,fk⟩ ⟨ha1,han,hk,hl⟩
 dsimp only at ha1 han hk hl
 have hainc:IntKind.i64.wrap ((a:Int)+1)=((a+1:Nat):Int):=IntWalk.i64_in _ ⟨by omega,by omega⟩
 (repeat'(first|refine Z2 44 ?_|refine Z0 44 ?_|refine st ?_|(apply B<;>intro hb<;>try cases hb)))<;>try refine At.mk ?_
 refine Zl rfl rfl rfl (fun hb=>?_) (fun hb=>?_)
 · have hal : a < n := by have := of_decide_eq_true hb; omega
   clear hb
   (refine go ?_;repeat' (apply B<;>intro hb<;>try cases hb))
   refine ZF hC (fun (z:Nat×Nat×List Pr×Bool)=>a+1≤z.1∧z.1≤n+1∧z.2.1≤10*a+z.1∧LJ n z.2.2.1 z.2.1) (fun z=>n+1-z.1) 3 (fun z => [(2,.ptr 0 0 0),(3,.ptr 1 0 0),(4,.ptr 2 0 0),(5,.val (.int .u8 (mkN n:Nat))),(6,.val (.int .i64 (v2:Int))),(7,.val (.int .i64 (z.2.1:Int))),(8,.val (.int .i64 (a:Int))),(9,.val (.int .i64 (z.1:Int)))])
    (fun z => [(0,⟨6,[zpv [.int .i64 0,.slice none 0 0,.int .u64 0,.slice none 0 0,.slice none 0 0,.slice none 0 0]]⟩),(1,srcB p fl 2),(2,⟨6,[[.val (.int .i64 (n:Int)),.vec (z.2.2.1.map prC) z.2.2.2,.val (.int .u64 0),.vec [] true,.vec [] true,.vec [] true]]⟩)]) (Nat.zero_le _) (a+1,k,l,fk) ⟨Nat.le_refl _,by show a+1≤n+1; omega,by show k≤10*a+(a+1); omega,hl⟩
    ⟨⟨rfl,show (0:Nat)<3 by decide⟩,⟨rfl,show (1:Nat)<3 by decide⟩,⟨rfl,show (2:Nat)<3 by decide⟩,⟨rfl,trivial⟩,⟨rfl,trivial⟩,⟨rfl,trivial⟩,⟨rfl,trivial⟩,⟨by show some _=some _; rw [hainc],trivial⟩,trivial⟩
    ⟨⟨by decide,rfl,⟨⟨trivial,trivial,trivial,trivial,trivial,trivial,trivial⟩,trivial⟩⟩,⟨by decide,rfl,hsi 2 _⟩,⟨by decide,rfl,⟨⟨trivial,hpl _ _,trivial,trivial,trivial,trivial,trivial⟩,trivial⟩⟩,trivial⟩ ?_
   clear hk hl
   rintro⟨c,k,l,fk⟩ ⟨hc1,hcn,hk,hl⟩
   dsimp only at hc1 hcn hk hl
   have hcinc:IntKind.i64.wrap ((c:Int)+1)=((c+1:Nat):Int):=IntWalk.i64_in _ ⟨by omega,by omega⟩
   have hkinc:IntKind.i64.wrap ((k:Int)+1)=((k+1:Nat):Int):=IntWalk.i64_in _ ⟨by omega,by omega⟩
   have hend:∀ l' fk',LJ n l' (k+1)→c≤n→(fun (z:Nat×Nat×List Pr×Bool)=>a+1≤z.1∧z.1≤n+1∧z.2.1≤10*a+z.1∧LJ n z.2.2.1 z.2.1) (c+1,k+1,l',fk'):=fun l' fk' h1 h2=>⟨by show a+1≤c+1; omega,by show c+1≤n+1; omega,by show k+1≤10*a+(c+1); omega,h1⟩
   (repeat'(first|refine Z2 52 ?_|refine Z0 52 ?_|refine st ?_|(apply B<;>intro hb<;>try cases hb)))<;>try refine At.mk ?_
   refine Zl rfl rfl rfl (fun hb=>?_) (fun hb=>?_)
   · have hcl : c ≤ n := by have := of_decide_eq_true hb; omega
     clear hb
     (repeat'(first|refine Z2 57 ?_|refine Z0 57 ?_|refine st ?_|(apply B<;>intro hb<;>try cases hb)))<;>try refine At.mk ?_
     refine Zv rfl rfl rfl (Z2Q k 8) ?_
     have hk8:=Nat.mod_lt k (show 0<8 by decide)
     refine Zv rfl rfl rfl (show IntKind.u64.wrap ((k % 8:Nat):Int)=((k % 8:Nat):Int) from IntWalk.u64_in _ ⟨by omega,by omega⟩) ?_
     refine Zal rfl rfl (by omega) rfl rfl ?_
     (repeat'(first|refine Z2 61 ?_|refine Z0 61 ?_|refine st ?_|(apply B<;>intro hb<;>try cases hb)))<;>try refine At.mk ?_
     refine Zl rfl rfl rfl (fun hb=>?_) (fun hb=>?_)
     · clear hb
       (repeat'(first|refine Z2 65 ?_|refine Z0 65 ?_|refine st ?_|(apply B<;>intro hb<;>try cases hb)))<;>try refine At.mk ?_
       refine Zq rfl ?_
       refine Zl rfl rfl rfl (fun hb=>?_) (fun hb=>?_)
       · clear hb
         (repeat'(first|refine Z2 72 ?_|refine Z0 72 ?_|refine st ?_|(apply B<;>intro hb<;>try cases hb)))<;>try refine At.mk ?_
         refine ZC rfl rfl (ZbI l fk (hl.good hn2.2).small a c ⟨ha1,by omega⟩ ⟨by omega,by omega⟩ (by omega) (by have:=hl.len;omega)) ⟨Zf l,trivial,trivial,trivial⟩ rfl ?_
         rintro r ⟨l',fl',er,hL,rfl⟩
         (refine go ?_;repeat' (apply B<;>intro hb<;>try cases hb))
         exact⟨(c+1,k+1,l',fl'),hend l' fl' (hl.step hL ha1 (by omega) hcl) hcl,by show n+1-(c+1)<n+1-c; omega,⟨⟨rfl,show (0:Nat)<3 by decide⟩,⟨rfl,show (1:Nat)<3 by decide⟩,⟨rfl,show (2:Nat)<3 by decide⟩,⟨rfl,trivial⟩,⟨rfl,trivial⟩,⟨by show some _=some _; rw [hkinc],trivial⟩,⟨rfl,trivial⟩,⟨by show some _=some _; rw [hcinc],trivial⟩,trivial⟩,⟨⟨by decide,rfl,⟨⟨trivial,trivial,trivial,trivial,trivial,trivial,trivial⟩,trivial⟩⟩,⟨by decide,rfl,hsi 2 _⟩,⟨by decide,rfl,⟨⟨trivial,hpl _ _,trivial,trivial,trivial,trivial,trivial⟩,trivial⟩⟩,trivial⟩⟩
       · clear hb
         (refine go ?_;repeat' (apply B<;>intro hb<;>try cases hb))
         exact⟨(c+1,k+1,l,fk),hend l fk (hl.mono (Nat.le_succ k)) hcl,by show n+1-(c+1)<n+1-c; omega,⟨⟨rfl,show (0:Nat)<3 by decide⟩,⟨rfl,show (1:Nat)<3 by decide⟩,⟨rfl,show (2:Nat)<3 by decide⟩,⟨rfl,trivial⟩,⟨rfl,trivial⟩,⟨by show some _=some _; rw [hkinc],trivial⟩,⟨rfl,trivial⟩,⟨by show some _=some _; rw [hcinc],trivial⟩,trivial⟩,⟨⟨by decide,rfl,⟨⟨trivial,trivial,trivial,trivial,trivial,trivial,trivial⟩,trivial⟩⟩,⟨by decide,rfl,hsi 2 _⟩,⟨by decide,rfl,⟨⟨trivial,hpl _ _,trivial,trivial,trivial,trivial,trivial⟩,trivial⟩⟩,trivial⟩⟩
     · clear hb
       (refine go ?_;repeat' (apply B<;>intro hb<;>try cases hb))
       exact⟨(c+1,k+1,l,fk),hend l fk (hl.mono (Nat.le_succ k)) hcl,by show n+1-(c+1)<n+1-c; omega,⟨⟨rfl,show (0:Nat)<3 by decide⟩,⟨rfl,show (1:Nat)<3 by decide⟩,⟨rfl,show (2:Nat)<3 by decide⟩,⟨rfl,trivial⟩,⟨rfl,trivial⟩,⟨by show some _=some _; rw [hkinc],trivial⟩,⟨rfl,trivial⟩,⟨by show some _=some _; rw [hcinc],trivial⟩,trivial⟩,⟨⟨by decide,rfl,⟨⟨trivial,trivial,trivial,trivial,trivial,trivial,trivial⟩,trivial⟩⟩,⟨by decide,rfl,hsi 2 _⟩,⟨by decide,rfl,⟨⟨trivial,hpl _ _,trivial,trivial,trivial,trivial,trivial⟩,trivial⟩⟩,trivial⟩⟩
   · have hcl : c = n + 1 := by have := of_decide_eq_false hb; omega
     clear hb
     (refine go ?_;repeat' (apply B<;>intro hb<;>try cases hb))
     exact⟨(a+1,k,l,fk),⟨by show 1≤a+1; omega,by show a+1≤n; omega,by show k≤10*(a+1); omega,hl⟩,by show n-(a+1)<n-a; omega,⟨⟨rfl,show (0:Nat)<3 by decide⟩,⟨rfl,show (1:Nat)<3 by decide⟩,⟨rfl,show (2:Nat)<3 by decide⟩,⟨rfl,trivial⟩,⟨rfl,trivial⟩,⟨rfl,trivial⟩,⟨by show some _=some _; rw [hainc],trivial⟩,trivial⟩,⟨⟨by decide,rfl,⟨⟨trivial,trivial,trivial,trivial,trivial,trivial,trivial⟩,trivial⟩⟩,⟨by decide,rfl,hsi 2 _⟩,⟨by decide,rfl,⟨⟨trivial,hpl _ _,trivial,trivial,trivial,trivial,trivial⟩,trivial⟩⟩,trivial⟩⟩
 · have hal : a = n := by have := of_decide_eq_false hb; omega
   clear hb
   have hgl:=hl.good hn2.2
   have hlm:=hl.mem
   clear hl hk hv2 hainc
   (repeat'(first|refine Z2 79 ?_|refine Z0 79 ?_|refine st ?_|(apply B<;>intro hb<;>try cases hb)))<;>try refine At.mk ?_
   refine ZZ (ZM p hp fl 2 (by omega)) rfl rfl rfl rfl (Zy p fl 2) trivial ?_
   rintro r b' - - ⟨v3,hv3,rfl,rfl⟩
   (repeat'(first|refine Z2 82 ?_|refine Z0 82 ?_|refine st ?_|(apply B<;>intro hb<;>try cases hb)))<;>try refine At.mk ?_
   obtain⟨s,hs1,hs2⟩:=Zg3 (IntKind.u8.wrap (v3:Int)) (mkN n) (by omega)
   have hs3:s≤mkN n:=by rw [← hs1]; exact Nat.left_le_or
   refine Zv rfl rfl rfl hs2 ?_
   refine Zv rfl rfl rfl (show IntKind.u64.wrap ((s:Nat):Int)=((s:Nat):Int) from IntWalk.u64_in _ ⟨by omega,by omega⟩) ?_
   clear hs2 hv3
   (repeat'(first|refine Z2 86 ?_|refine Z0 86 ?_|refine st ?_|(apply B<;>intro hb<;>try cases hb)))<;>try refine At.mk ?_
   refine ZZ (ZM p hp fl 3 (by omega)) rfl rfl rfl rfl (Zy p fl 3) trivial ?_
   rintro r b' - - ⟨v4,hv4,rfl,rfl⟩
   refine Zv rfl rfl rfl (Z2Q v4 7) ?_
   have hc6:=Nat.mod_lt v4 (show 0<7 by decide)
   generalize v4 % 7=cnt at hc6 ⊢
   clear hv4
   (repeat'(first|refine Z2 11 ?_|refine Z0 11 ?_|refine st ?_|(apply B<;>intro hb<;>try cases hb)))<;>try refine At.mk ?_
   refine Zd (ZO (id:=2) (i0:=0) (j0:=3) rfl (Nat.le_of_ble_eq_true rfl) (Nat.le_of_ble_eq_true rfl) rfl 5 (by decide) (by decide)) ?_
   (refine go ?_;repeat' (apply B<;>intro hb<;>try cases hb))
   refine ZJ hC (fun (z:Nat×Nat×List RU)=>z.1≤cnt∧z.2.1≤4+4*z.1∧z.2.2.length=z.1∧∀ r∈z.2.2,RuOk n r) (fun z=>cnt-z.1) 4 (fun z => [(2,.ptr 0 0 0),(3,.ptr 1 0 0),(4,.ptr 2 0 0),(5,.val (.int .u8 (mkN n:Nat))),(10,.val (.int .i64 (cnt:Int))),(11,.val (.int .i64 (z.1:Int)))])
    (fun z => [(0,⟨6,[zpv [.int .i64 0,.slice none 0 0,.int .u64 0,.slice none 0 0,.slice none 0 0,.slice none 0 0]]⟩),(1,srcB p fl z.2.1),(2,⟨6,[[.val (.int .i64 (n:Int)),.vec (l.map prC) fk,.val (.int .u64 (s:Int)),.own 3,.vec [] true,.vec [] true]]⟩),(3,⟨5,z.2.2.map ruR⟩)]) (Nat.zero_le _) (0,3+1,[]) ⟨Nat.zero_le _,Nat.le_refl _,rfl,fun r hr=>by cases hr⟩ (fun i=>i) (fun _ _=>rfl) Zo
    ⟨⟨_,rfl,.ptr (ρ:=fun i=>i) 0 0 0 (by decide)⟩,⟨_,rfl,.ptr (ρ:=fun i=>i) 1 0 0 (by decide)⟩,⟨_,rfl,.ptr (ρ:=fun i=>i) 2 0 0 (by decide)⟩,⟨_,rfl,.pure _ trivial⟩,⟨_,rfl,.pure _ trivial⟩,⟨_,rfl,.pure _ trivial⟩,trivial⟩
    ⟨⟨by decide,_,rfl,.same _ ⟨⟨trivial,trivial,trivial,trivial,trivial,trivial,trivial⟩,trivial⟩⟩,⟨by decide,_,rfl,.same _ (Zy p fl _)⟩,⟨by decide,_,rfl,RenB.single ⟨.pure _ trivial,.pure _ (Zf l),.pure _ trivial,.own (ρ:=fun i=>i) 3 (by decide),.pure _ trivial,.pure _ trivial,trivial⟩ rfl⟩,⟨by decide,_,rfl,.same _ trivial⟩,trivial⟩ ?_
   rintro⟨i,t,rs⟩ ⟨hi,ht,hrl,hro⟩
   dsimp only at hi ht hrl hro
   have hinc:IntKind.i64.wrap ((i:Int)+1)=((i+1:Nat):Int):=IntWalk.i64_in _ ⟨by omega,by omega⟩
   (repeat'(first|refine Z2 90 ?_|refine Z0 90 ?_|refine st ?_|(apply B<;>intro hb<;>try cases hb)))<;>try refine At.mk ?_
   refine Zl rfl rfl rfl (fun hb=>?_) (fun hb=>?_)
   · have hil : i < cnt := by have := of_decide_eq_true hb; omega
     clear hb
     (repeat'(first|refine Z2 94 ?_|refine Z0 94 ?_|refine st ?_|(apply B<;>intro hb<;>try cases hb)))<;>try refine At.mk ?_
     refine ZZ (ZM p hp fl t (by omega)) rfl rfl rfl rfl (Zy p fl _) trivial ?_
     rintro r b' - - ⟨w1,hw1,rfl,rfl⟩
     (repeat'(first|refine Z2 96 ?_|refine Z0 96 ?_|refine st ?_|(apply B<;>intro hb<;>try cases hb)))<;>try refine At.mk ?_
     refine ZZ (ZM p hp fl (t+1) (by omega)) rfl rfl rfl rfl (Zy p fl _) trivial ?_
     rintro r b' - - ⟨w2,hw2,rfl,rfl⟩
     (repeat'(first|refine Z2 98 ?_|refine Z0 98 ?_|refine st ?_|(apply B<;>intro hb<;>try cases hb)))<;>try refine At.mk ?_
     refine ZZ (ZM p hp fl (t+1+1) (by omega)) rfl rfl rfl rfl (Zy p fl _) trivial ?_
     rintro r b' - - ⟨w3,hw3,rfl,rfl⟩
     (repeat'(first|refine Z2 100 ?_|refine Z0 100 ?_|refine st ?_|(apply B<;>intro hb<;>try cases hb)))<;>try refine At.mk ?_
     refine ZZ (ZM p hp fl (t+1+1+1) (by omega)) rfl rfl rfl rfl (Zy p fl _) trivial ?_
     rintro r b' - - ⟨w4,hw4,rfl,rfl⟩
     (repeat'(first|refine Z2 103 ?_|refine Z0 103 ?_|refine st ?_|(apply B<;>intro hb<;>try cases hb)))<;>try refine At.mk ?_
     refine Z5 rfl rfl rfl ?_
     generalize ((w1:Int).tmod 4 == 3)=rev
     (repeat'(first|refine Z2 107 ?_|refine Z0 107 ?_|refine st ?_|(apply B<;>intro hb<;>try cases hb)))<;>try refine At.mk ?_
     refine Z5 (Zft rfl rfl (by omega)) rfl rfl ?_
     rw [Z2Q w2 n]
     have hw:=Nat.mod_lt w2 (show 0<n by omega)
     refine Zv rfl rfl rfl (show IntKind.i64.wrap (1+((w2 % n:Nat):Int))=((1+w2 % n:Nat):Int) from by rw [IntWalk.i64_in _ ⟨by omega,by omega⟩];omega) ?_
     cases rev
     · (repeat'(first|refine Z2 117 ?_|refine Z0 117 ?_|refine st ?_|(apply B<;>intro hb<;>try cases hb)))<;>try refine At.mk ?_
       refine ZC rfl rfl (Z4H (w3:Int) (w4:Int) (mkN n) (by omega)) ⟨trivial,trivial,trivial,trivial⟩ rfl ?_
       rintro r ⟨c,hc1,hc2,rfl⟩
       (repeat'(first|refine Z2 123 ?_|refine Z0 123 ?_|refine st ?_|(apply B<;>intro hb<;>try cases hb)))<;>try refine At.mk ?_
       refine ZE (Zu (k:=3) (m := [ruR (RU.mk false c (1+w2 % n) i)]) (fl:=true) rfl rfl rfl (fun q hq=>by rw [List.mem_singleton] at hq; subst hq; rfl) rfl (by
        show ((rs.map ruR).length+1)*40≤_
        rw [List.length_map];omega)) rfl rfl ?_
       (refine go ?_;repeat' (apply B<;>intro hb<;>try cases hb))
       refine⟨(i+1,t+1+1+1+1,rs ++ [(RU.mk false c (1+w2 % n) i)]),mv 3 5,⟨by show i+1≤cnt; omega,by show t+1+1+1+1≤4+4*(i+1); omega,by rw [List.length_append,hrl]; rfl,fun r hr=>(List.mem_append.1 hr).elim (hro r) fun e=>by
        rw [List.mem_singleton] at e; subst e
        exact RuOk.mk0 hn2.2 hc1 hm62 hc2 ⟨by omega,by omega⟩ (fun h=>by cases h)⟩,by show cnt-(i+1)<cnt-i; omega,fun i hi=>absurd hi (Nat.not_lt_zero i),ZA rfl,
        ⟨⟨_,rfl,.ptr (ρ:=mv 3 5) 0 0 0 (by decide)⟩,⟨_,rfl,.ptr (ρ:=mv 3 5) 1 0 0 (by decide)⟩,⟨_,rfl,.ptr (ρ:=mv 3 5) 2 0 0 (by decide)⟩,⟨_,rfl,.pure _ trivial⟩,⟨_,rfl,.pure _ trivial⟩,⟨_,by show some _=some _; rw [hinc],.pure _ trivial⟩,trivial⟩,
        ⟨⟨by decide,_,rfl,.same _ ⟨⟨trivial,trivial,trivial,trivial,trivial,trivial,trivial⟩,trivial⟩⟩,⟨by decide,_,rfl,.same _ (Zy p fl _)⟩,⟨by decide,_,rfl,RenB.single ⟨.pure _ trivial,.pure _ (Zf l),.pure _ trivial,.own (ρ:=mv 3 5) 3 (by decide),.pure _ trivial,.pure _ trivial,trivial⟩ rfl⟩,⟨by decide,_,rfl,?_⟩,trivial⟩⟩
       show RenB _ _ ⟨5,rs.map ruR ++ [ruR (RU.mk false c (1+w2 % n) i)]⟩ ⟨5,(rs ++ [(RU.mk false c (1+w2 % n) i)]).map ruR⟩
       rw [List.map_append]
       exact .same _ (by rw [← List.map_singleton,← List.map_append]; exact Z1l _)
     · (repeat'(first|refine Z2 123 ?_|refine Z0 123 ?_|refine st ?_|(apply B<;>intro hb<;>try cases hb)))<;>try refine At.mk ?_
       refine ZE (Zu (k:=3) (m := [ruR (RU.mk true (0,0) (1+w2 % n) i)]) (fl:=true) rfl rfl rfl (fun q hq=>by rw [List.mem_singleton] at hq; subst hq; rfl) rfl (by
        show ((rs.map ruR).length+1)*40≤_
        rw [List.length_map];omega)) rfl rfl ?_
       (refine go ?_;repeat' (apply B<;>intro hb<;>try cases hb))
       refine⟨(i+1,t+1+1+1+1,rs ++ [(RU.mk true (0,0) (1+w2 % n) i)]),mv 3 5,⟨by show i+1≤cnt; omega,by show t+1+1+1+1≤4+4*(i+1); omega,by rw [List.length_append,hrl]; rfl,fun r hr=>(List.mem_append.1 hr).elim (hro r) fun e=>by
        rw [List.mem_singleton] at e; subst e
        exact RuOk.mk0 hn2.2 ⟨Nat.zero_or _,Nat.zero_or _⟩ hm62 rfl ⟨by omega,by omega⟩ (fun h=>rfl)⟩,by show cnt-(i+1)<cnt-i; omega,fun i hi=>absurd hi (Nat.not_lt_zero i),ZA rfl,
        ⟨⟨_,rfl,.ptr (ρ:=mv 3 5) 0 0 0 (by decide)⟩,⟨_,rfl,.ptr (ρ:=mv 3 5) 1 0 0 (by decide)⟩,⟨_,rfl,.ptr (ρ:=mv 3 5) 2 0 0 (by decide)⟩,⟨_,rfl,.pure _ trivial⟩,⟨_,rfl,.pure _ trivial⟩,⟨_,by show some _=some _; rw [hinc],.pure _ trivial⟩,trivial⟩,
        ⟨⟨by decide,_,rfl,.same _ ⟨⟨trivial,trivial,trivial,trivial,trivial,trivial,trivial⟩,trivial⟩⟩,⟨by decide,_,rfl,.same _ (Zy p fl _)⟩,⟨by decide,_,rfl,RenB.single ⟨.pure _ trivial,.pure _ (Zf l),.pure _ trivial,.own (ρ:=mv 3 5) 3 (by decide),.pure _ trivial,.pure _ trivial,trivial⟩ rfl⟩,⟨by decide,_,rfl,?_⟩,trivial⟩⟩
       show RenB _ _ ⟨5,rs.map ruR ++ [ruR (RU.mk true (0,0) (1+w2 % n) i)]⟩ ⟨5,(rs ++ [(RU.mk true (0,0) (1+w2 % n) i)]).map ruR⟩
       rw [List.map_append]
       exact .same _ (by rw [← List.map_singleton,← List.map_append]; exact Z1l _)
   · have hil : i = cnt := by have := of_decide_eq_false hb; omega
     clear hb hinc
     rw [hil] at hrl
     have ht28:t≤28:=by omega
     clear hi hil ht
     (repeat'(first|refine Z2 126 ?_|refine Z0 126 ?_|refine st ?_|(apply B<;>intro hb<;>try cases hb)))<;>try refine At.mk ?_
     refine ZZ (ZM p hp fl t (by omega)) rfl rfl rfl rfl (Zy p fl _) trivial ?_
     rintro r b' - - ⟨w1,hw1,rfl,rfl⟩
     refine Zd (ZB (ob:=2) (id:=3) (i0:=0) (j0:=3) rfl rfl (by decide) (Z1l rs) (Nat.le_of_ble_eq_true rfl) (Nat.le_of_ble_eq_true rfl) rfl) ?_
     refine Zv rfl rfl rfl (Z2Q w1 4) ?_
     have hv4:=Nat.mod_lt w1 (show 0<4 by decide)
     generalize w1 % 4=nvc at hv4 ⊢
     clear hw1
     (repeat'(first|refine Z2 129 ?_|refine Z0 129 ?_|refine st ?_|(apply B<;>intro hb<;>try cases hb)))<;>try refine At.mk ?_
     refine ZZ (ZM p hp fl (t+1) (by omega)) rfl rfl rfl rfl (Zy p fl _) trivial ?_
     rintro r b' - - ⟨w1,hw1,rfl,rfl⟩
     refine Zv rfl rfl rfl (Z2Q w1 3) ?_
     have hv3:=Nat.mod_lt w1 (show 0<3 by decide)
     refine Zv rfl rfl rfl (show IntKind.i64.wrap (1+((w1 % 3:Nat):Int))=((1+w1 % 3:Nat):Int) from by rw [IntWalk.i64_in _ ⟨by omega,by omega⟩];omega) ?_
     obtain⟨glc,hglc⟩:∃ g,1+w1 % 3=g:=⟨_,rfl⟩
     rw [hglc]
     have hgl3:1≤glc∧glc≤3:=by omega
     clear hglc hv3 hw1
     (repeat'(first|refine Z2 19 ?_|refine Z0 19 ?_|refine st ?_|(apply B<;>intro hb<;>try cases hb)))<;>try refine At.mk ?_
     refine Zd (ZO (id:=2) (i0:=0) (j0:=4) rfl (Nat.le_of_ble_eq_true rfl) (Nat.le_of_ble_eq_true rfl) rfl 2 (by decide) (by decide)) ?_
     (refine go ?_;repeat' (apply B<;>intro hb<;>try cases hb))
     refine ZJ hC (fun (z:Nat×Nat×List Cu)=>z.1≤nvc∧z.2.1≤30+2*z.1∧z.2.2.length≤z.1∧∀ c∈z.2.2,InM (mkN n) c∧emC c=false∧hoC c (clo l s)=false) (fun z=>nvc-z.1) 5 (fun z => [(2,.ptr 0 0 0),(3,.ptr 1 0 0),(4,.ptr 2 0 0),(5,.val (.int .u8 (mkN n:Nat))),(17,.val (.int .i64 (nvc:Int))),(18,.val (.int .i64 (glc:Int))),(19,.val (.int .i64 (z.1:Int)))])
      (fun z => [(0,⟨6,[zpv [.int .i64 0,.slice none 0 0,.int .u64 0,.slice none 0 0,.slice none 0 0,.slice none 0 0]]⟩),(1,srcB p fl z.2.1),(2,⟨6,[[.val (.int .i64 (n:Int)),.vec (l.map prC) fk,.val (.int .u64 (s:Int)),.vec (rs.map ruR) false,.own 4,.vec [] true]]⟩),(4,⟨2,z.2.2.map raC⟩)]) (Nat.zero_le _) (0,t+1+1,[]) ⟨Nat.zero_le _,by show t+1+1≤30+2*0; omega,Nat.le_refl _,fun r hr=>by cases hr⟩ (fun i=>i) (fun _ _=>rfl) Zo
      ⟨⟨_,rfl,.ptr (ρ:=fun i=>i) 0 0 0 (by decide)⟩,⟨_,rfl,.ptr (ρ:=fun i=>i) 1 0 0 (by decide)⟩,⟨_,rfl,.ptr (ρ:=fun i=>i) 2 0 0 (by decide)⟩,⟨_,rfl,.pure _ trivial⟩,⟨_,rfl,.pure _ trivial⟩,⟨_,rfl,.pure _ trivial⟩,⟨_,rfl,.pure _ trivial⟩,trivial⟩
      ⟨⟨by decide,_,rfl,.same _ ⟨⟨trivial,trivial,trivial,trivial,trivial,trivial,trivial⟩,trivial⟩⟩,⟨by decide,_,rfl,.same _ (Zy p fl _)⟩,⟨by decide,_,rfl,RenB.single ⟨.pure _ trivial,.pure _ (Zf l),.pure _ trivial,.pure _ (Z1l rs),.own (ρ:=fun i=>i) 4 (by decide),.pure _ trivial,trivial⟩ rfl⟩,⟨by decide,_,rfl,.same _ trivial⟩,trivial⟩ ?_
     clear ht28
     rintro⟨i,t,nv⟩ ⟨hi,ht,hnl,hno⟩
     dsimp only at hi ht hnl hno
     have hinc:IntKind.i64.wrap ((i:Int)+1)=((i+1:Nat):Int):=IntWalk.i64_in _ ⟨by omega,by omega⟩
     (repeat'(first|refine Z2 134 ?_|refine Z0 134 ?_|refine st ?_|(apply B<;>intro hb<;>try cases hb)))<;>try refine At.mk ?_
     refine Zl rfl rfl rfl (fun hb=>?_) (fun hb=>?_)
     · have hil : i < nvc := by have := of_decide_eq_true hb; omega
       clear hb
       (repeat'(first|refine Z2 138 ?_|refine Z0 138 ?_|refine st ?_|(apply B<;>intro hb<;>try cases hb)))<;>try refine At.mk ?_
       refine ZZ (ZM p hp fl t (by omega)) rfl rfl rfl rfl (Zy p fl _) trivial ?_
       rintro r b' - - ⟨w1,hw1,rfl,rfl⟩
       (repeat'(first|refine Z2 140 ?_|refine Z0 140 ?_|refine st ?_|(apply B<;>intro hb<;>try cases hb)))<;>try refine At.mk ?_
       refine ZZ (ZM p hp fl (t+1) (by omega)) rfl rfl rfl rfl (Zy p fl _) trivial ?_
       rintro r b' - - ⟨w2,hw2,rfl,rfl⟩
       (repeat'(first|refine Z2 145 ?_|refine Z0 145 ?_|refine st ?_|(apply B<;>intro hb<;>try cases hb)))<;>try refine At.mk ?_
       refine Z5 (Zft rfl rfl (by omega)) rfl rfl ?_
       rw [Z2Q i n]
       have hw:=Nat.mod_lt i (show 0<n by omega)
       refine Zv rfl rfl rfl (show IntKind.u64.wrap ((i % n:Nat):Int)=((i % n:Nat):Int) from IntWalk.u64_in _ ⟨by omega,by omega⟩) ?_
       refine Z56 rfl rfl (by omega) rfl rfl ?_
       (repeat'(first|refine Z2 151 ?_|refine Z0 151 ?_|refine st ?_|(apply B<;>intro hb<;>try cases hb)))<;>try refine At.mk ?_
       refine ZC rfl rfl (Z4H _ (w2:Int) (mkN n) (by omega)) ⟨trivial,trivial,trivial,trivial⟩ rfl ?_
       rintro r ⟨c,hc1,hc2,rfl⟩
       have hcl:=Z26 l fk hgl.small s (by omega)
       have hc64:=hc1.lt (by omega)
       have hho:=Z3b c (clo l s) hc64 (Z4R _ _)
       (repeat'(first|refine Z2 157 ?_|refine Z0 157 ?_|refine st ?_|(apply B<;>intro hb<;>try cases hb)))<;>try refine At.mk ?_
       refine Zx hcl rfl rfl rfl ⟨Zf _,trivial,trivial⟩ ?_
       refine Zx hho rfl rfl rfl ⟨Z2m c,trivial,trivial⟩ ?_
       cases hb:hoC c (clo l s)
       · (repeat'(first|refine Z2 164 ?_|refine Z0 164 ?_|refine st ?_|(apply B<;>intro hb<;>try cases hb)))<;>try refine At.mk ?_
         refine ZE (Zu (k:=4) (m := [raC c]) (fl:=true) rfl rfl rfl (fun q hq=>by rw [List.mem_singleton] at hq; subst hq; rfl) rfl (by
         show ((nv.map raC).length+1)*16≤_
         rw [List.length_map];omega)) rfl rfl ?_
         (refine go ?_;repeat' (apply B<;>intro hb<;>try cases hb))
         refine⟨(i+1,t+1+1,nv ++ [c]),mv 4 14,⟨by show i+1≤nvc; omega,by show t+1+1≤30+2*(i+1); omega,by rw [List.length_append]; show nv.length+1≤i+1; omega,fun c' hc'=>(List.mem_append.1 hc').elim (hno c') fun e=>by rw [List.mem_singleton] at e; subst e; exact⟨hc1,hc2,hb⟩⟩,by show nvc-(i+1)<nvc-i; omega,fun i hi=>absurd hi (Nat.not_lt_zero i),ZA rfl,
          ⟨⟨_,rfl,.ptr (ρ:=mv 4 14) 0 0 0 (by decide)⟩,⟨_,rfl,.ptr (ρ:=mv 4 14) 1 0 0 (by decide)⟩,⟨_,rfl,.ptr (ρ:=mv 4 14) 2 0 0 (by decide)⟩,⟨_,rfl,.pure _ trivial⟩,⟨_,rfl,.pure _ trivial⟩,⟨_,rfl,.pure _ trivial⟩,⟨_,by show some _=some _; rw [hinc],.pure _ trivial⟩,trivial⟩,
          ⟨⟨by decide,_,rfl,.same _ ⟨⟨trivial,trivial,trivial,trivial,trivial,trivial,trivial⟩,trivial⟩⟩,⟨by decide,_,rfl,.same _ (Zy p fl _)⟩,⟨by decide,_,rfl,RenB.single ⟨.pure _ trivial,.pure _ (Zf l),.pure _ trivial,.pure _ (Z1l rs),.own (ρ:=mv 4 14) 4 (by decide),.pure _ trivial,trivial⟩ rfl⟩,⟨by decide,_,rfl,?_⟩,trivial⟩⟩
         show RenB _ _ ⟨2,nv.map raC ++ [raC c]⟩ ⟨2,(nv ++ [c]).map raC⟩
         rw [List.map_append]
         exact .same _ (by rw [← List.map_singleton,← List.map_append]; exact Z13 _)
       · (refine go ?_;repeat' (apply B<;>intro hb<;>try cases hb))
         exact⟨(i+1,t+1+1,nv),fun i=>i,⟨by show i+1≤nvc; omega,by show t+1+1≤30+2*(i+1); omega,by show nv.length≤i+1; omega,hno⟩,by show nvc-(i+1)<nvc-i; omega,fun i hi=>rfl,Zo,
          ⟨⟨_,rfl,.ptr (ρ:=fun i=>i) 0 0 0 (by decide)⟩,⟨_,rfl,.ptr (ρ:=fun i=>i) 1 0 0 (by decide)⟩,⟨_,rfl,.ptr (ρ:=fun i=>i) 2 0 0 (by decide)⟩,⟨_,rfl,.pure _ trivial⟩,⟨_,rfl,.pure _ trivial⟩,⟨_,rfl,.pure _ trivial⟩,⟨_,by show some _=some _; rw [hinc],.pure _ trivial⟩,trivial⟩,
          ⟨⟨by decide,_,rfl,.same _ ⟨⟨trivial,trivial,trivial,trivial,trivial,trivial,trivial⟩,trivial⟩⟩,⟨by decide,_,rfl,.same _ (Zy p fl _)⟩,⟨by decide,_,rfl,RenB.single ⟨.pure _ trivial,.pure _ (Zf l),.pure _ trivial,.pure _ (Z1l rs),.own (ρ:=fun i=>i) 4 (by decide),.pure _ trivial,trivial⟩ rfl⟩,⟨by decide,_,rfl,.same _ (Z13 _)⟩,trivial⟩⟩
     · have hil : i = nvc := by have := of_decide_eq_false hb; omega
       clear hb hinc
       rw [hil] at hnl
       have ht40:t≤40:=by omega
       clear hi hil ht
       (repeat'(first|refine Z2 23 ?_|refine Z0 23 ?_|refine st ?_|(apply B<;>intro hb<;>try cases hb)))<;>try refine At.mk ?_
       refine Zd (ZB (ob:=2) (id:=4) (i0:=0) (j0:=4) rfl rfl (by decide) (Z13 nv) (Nat.le_of_ble_eq_true rfl) (Nat.le_of_ble_eq_true rfl) rfl) ?_
       refine Zd (ZO (id:=2) (i0:=0) (j0:=5) rfl (Nat.le_of_ble_eq_true rfl) (Nat.le_of_ble_eq_true rfl) rfl 2 (by decide) (by decide)) ?_
       (refine go ?_;repeat' (apply B<;>intro hb<;>try cases hb))
       refine ZJ hC (fun (z:Nat×Nat×List Cu)=>z.1≤glc∧z.2.1≤40+2*z.1∧z.2.2.length=z.1∧∀ c∈z.2.2,InM (mkN n) c∧emC c=false) (fun z=>glc-z.1) 6 (fun z => [(2,.ptr 0 0 0),(3,.ptr 1 0 0),(4,.ptr 2 0 0),(5,.val (.int .u8 (mkN n:Nat))),(18,.val (.int .i64 (glc:Int))),(23,.val (.int .i64 (z.1:Int)))])
        (fun z => [(0,⟨6,[zpv [.int .i64 0,.slice none 0 0,.int .u64 0,.slice none 0 0,.slice none 0 0,.slice none 0 0]]⟩),(1,srcB p fl z.2.1),(2,⟨6,[[.val (.int .i64 (n:Int)),.vec (l.map prC) fk,.val (.int .u64 (s:Int)),.vec (rs.map ruR) false,.vec (nv.map raC) false,.own 5]]⟩),(5,⟨2,z.2.2.map raC⟩)]) (Nat.zero_le _) (0,t,[]) ⟨Nat.zero_le _,by show t≤40+2*0; omega,rfl,fun r hr=>by cases hr⟩ (fun i=>i) (fun _ _=>rfl) Zo
        ⟨⟨_,rfl,.ptr (ρ:=fun i=>i) 0 0 0 (by decide)⟩,⟨_,rfl,.ptr (ρ:=fun i=>i) 1 0 0 (by decide)⟩,⟨_,rfl,.ptr (ρ:=fun i=>i) 2 0 0 (by decide)⟩,⟨_,rfl,.pure _ trivial⟩,⟨_,rfl,.pure _ trivial⟩,⟨_,rfl,.pure _ trivial⟩,trivial⟩
        ⟨⟨by decide,_,rfl,.same _ ⟨⟨trivial,trivial,trivial,trivial,trivial,trivial,trivial⟩,trivial⟩⟩,⟨by decide,_,rfl,.same _ (Zy p fl _)⟩,⟨by decide,_,rfl,RenB.single ⟨.pure _ trivial,.pure _ (Zf l),.pure _ trivial,.pure _ (Z1l rs),.pure _ (Z13 nv),.own (ρ:=fun i=>i) 5 (by decide),trivial⟩ rfl⟩,⟨by decide,_,rfl,.same _ trivial⟩,trivial⟩ ?_
       clear ht40
       rintro⟨i,t,gs⟩ ⟨hi,ht,hgn,hgo⟩
       dsimp only at hi ht hgn hgo
       have hinc:IntKind.i64.wrap ((i:Int)+1)=((i+1:Nat):Int):=IntWalk.i64_in _ ⟨by omega,by omega⟩
       (repeat'(first|refine Z2 168 ?_|refine Z0 168 ?_|refine st ?_|(apply B<;>intro hb<;>try cases hb)))<;>try refine At.mk ?_
       refine Zl rfl rfl rfl (fun hb=>?_) (fun hb=>?_)
       · have hil : i < glc := by have := of_decide_eq_true hb; omega
         clear hb
         (repeat'(first|refine Z2 172 ?_|refine Z0 172 ?_|refine st ?_|(apply B<;>intro hb<;>try cases hb)))<;>try refine At.mk ?_
         refine ZZ (ZM p hp fl t (by omega)) rfl rfl rfl rfl (Zy p fl _) trivial ?_
         rintro r b' - - ⟨w1,hw1,rfl,rfl⟩
         (repeat'(first|refine Z2 174 ?_|refine Z0 174 ?_|refine st ?_|(apply B<;>intro hb<;>try cases hb)))<;>try refine At.mk ?_
         refine ZZ (ZM p hp fl (t+1) (by omega)) rfl rfl rfl rfl (Zy p fl _) trivial ?_
         rintro r b' - - ⟨w2,hw2,rfl,rfl⟩
         (repeat'(first|refine Z2 180 ?_|refine Z0 180 ?_|refine st ?_|(apply B<;>intro hb<;>try cases hb)))<;>try refine At.mk ?_
         refine Z73 rfl rfl (.inl rfl) (Z4H (w1:Int) (w2:Int) (mkN n) (by omega)) ⟨trivial,trivial,trivial,trivial⟩ ?_
         rintro r ⟨c,hc1,hc2,rfl⟩
         (repeat'(first|refine Z2 182 ?_|refine Z0 182 ?_|refine st ?_|(apply B<;>intro hb<;>try cases hb)))<;>try refine At.mk ?_
         refine Zs (Zu (k:=5) (m := [raC c]) (fl:=true) rfl rfl rfl (fun q hq=>by rw [List.mem_singleton] at hq; subst hq; rfl) rfl (by
          show ((gs.map raC).length+1)*16≤_
          rw [List.length_map];omega)) rfl rfl ?_
         (refine go ?_;repeat' (apply B<;>intro hb<;>try cases hb))
         refine⟨(i+1,t+1+1,gs ++ [c]),mv 5 13,⟨by show i+1≤glc; omega,by show t+1+1≤40+2*(i+1); omega,by rw [List.length_append,hgn]; rfl,fun c' hc'=>(List.mem_append.1 hc').elim (hgo c') fun e=>by rw [List.mem_singleton] at e; subst e; exact⟨hc1,hc2⟩⟩,by show glc-(i+1)<glc-i; omega,fun i hi=>absurd hi (Nat.not_lt_zero i),ZA rfl,
          ⟨⟨_,rfl,.ptr (ρ:=mv 5 13) 0 0 0 (by decide)⟩,⟨_,rfl,.ptr (ρ:=mv 5 13) 1 0 0 (by decide)⟩,⟨_,rfl,.ptr (ρ:=mv 5 13) 2 0 0 (by decide)⟩,⟨_,rfl,.pure _ trivial⟩,⟨_,rfl,.pure _ trivial⟩,⟨_,by show some _=some _; rw [hinc],.pure _ trivial⟩,trivial⟩,
          ⟨⟨by decide,_,rfl,.same _ ⟨⟨trivial,trivial,trivial,trivial,trivial,trivial,trivial⟩,trivial⟩⟩,⟨by decide,_,rfl,.same _ (Zy p fl _)⟩,⟨by decide,_,rfl,RenB.single ⟨.pure _ trivial,.pure _ (Zf l),.pure _ trivial,.pure _ (Z1l rs),.pure _ (Z13 nv),.own (ρ:=mv 5 13) 5 (by decide),trivial⟩ rfl⟩,⟨by decide,_,rfl,?_⟩,trivial⟩⟩
         show RenB _ _ ⟨2,gs.map raC ++ [raC c]⟩ ⟨2,(gs ++ [c]).map raC⟩
         rw [List.map_append]
         exact .same _ (by rw [← List.map_singleton,← List.map_append]; exact Z13 _)
       · have hil : i = glc := by have := of_decide_eq_false hb; omega
         clear hb hinc
         rw [hil] at hgn
         (repeat'(first|refine Z2 184 ?_|refine Z0 184 ?_|refine st ?_|(apply B<;>intro hb<;>try cases hb)))<;>try refine At.mk ?_
         refine Zd (ZB (ob:=2) (id:=5) (i0:=0) (j0:=5) rfl rfl (by decide) (Z13 gs) (Nat.le_of_ble_eq_true rfl) (Nat.le_of_ble_eq_true rfl) rfl) ?_
         (refine go ?_;repeat' (apply B<;>intro hb<;>try cases hb))
         have hlo1:lowLL (l.map prC)=l.map prC:=Z4p (fun _=>rfl) l
         have hlo2:lowLL (rs.map ruR)=rs.map ruR:=Z4p (fun _=>rfl) rs
         have hlo3:∀ x:List Cu,lowLL (x.map raC)=x.map raC:=Z4p (fun _=>rfl)
         have hcI:∀ c:Cu,InM (mkN n) c→InM 62 c:=fun c hc=>⟨Z3w hc.1 hm62,Z3w hc.2 hm62⟩
         have hOk:MkOk ⟨n,l,s,rs,nv,gs⟩:=by
          refine⟨⟨⟨by show 1≤n; omega,by show n≤63; omega⟩,hgl,fun p hp=>?_,hs1,by show rs.length≤64; omega,hro,by show nv.length≤64; omega,fun c hc=>⟨(hno c hc).1.inC (hno c hc).2.1,hcI c (hno c hc).1⟩,by show gs.length≤64; omega,fun c hc=>⟨(hgo c hc).1.inC (hgo c hc).2,hcI c (hgo c hc).1⟩,?_⟩,hn2,by show rs.length≤6; omega,by show nv.length≤3; omega,by show 1≤gs.length∧gs.length≤3; omega⟩
          · have := hlm p hp
            show p.1≤n∧p.2≤n∧p.1≤5∧p.2≤5
            omega
          · show soC nv (clo l s) = false
            refine Bool.eq_false_iff.2 fun h=>?_
            obtain⟨c,hc,h⟩:=List.any_eq_true.1 h
            rw [(hno c hc).2.2] at h; cases h
         have he:(PV.agg [.val (.int .i64 (n:Int)),.vec (l.map prC) fk,.val (.int .u64 (s:Int)),.vec (rs.map ruR) false,.vec (nv.map raC) false,.vec (gs.map raC) false]).low=.agg (pbR ⟨n,l,s,rs,nv,gs⟩):=by
          show PV.agg [.val (.int .i64 (n:Int)),.vec (lowLL (l.map prC)) false,.val (.int .u64 (s:Int)),.vec (lowLL (rs.map ruR)) false,.vec (lowLL (nv.map raC)) false,.vec (lowLL (gs.map raC)) false]=_
          rw [hlo1,hlo2,hlo3,hlo3]; rfl
         refine Z1g (r:=.agg [.val (.int .i64 (n:Int)),.vec (l.map prC) fk,.val (.int .u64 (s:Int)),.vec (rs.map ruR) false,.vec (nv.map raC) false,.vec (gs.map raC) false]) rfl ?_ ⟨_,hOk,he⟩
         rw [he]
         exact Z2O _
theorem Z7F (l:List RU):(l.map ruR).length=l.length:=by simp
theorem Z4V:∀ {l m:List Pr},SortedP l→SortedP m→l.Perm m→l=m
 | [],m,_,_,h=>(List.Perm.nil_eq h)
 | a :: l,[],_,_,h=>by have:=h.length_eq; simp at this
 | a :: l, b :: m, h1, h2, h => by
   have h1':=List.pairwise_cons.1 h1
   have h2':=List.pairwise_cons.1 h2
   have hab:a=b:=by
    rcases List.mem_cons.1 (h.mem_iff.1 (List.mem_cons_self (a:=a) (l:=l))) with e|ha
    · exact e
    rcases List.mem_cons.1 (h.mem_iff.2 (List.mem_cons_self (a:=b) (l:=m))) with e|hb
    · exact e.symm
    have x1:=h1'.1 b hb
    have x2:=h2'.1 a ha
    omega
   subst hab
   rw [Z4V h1'.2 h2'.2 (List.Perm.cons_inv h)]
theorem SortedP.tk {l:List Pr} (h:SortedP l) (i:Nat):SortedP (l.take i):=List.Pairwise.sublist (List.take_sublist i l) h
theorem SortedP.nd {l:List Pr} (h:SortedP l):l.Nodup:=List.Pairwise.imp (fun {a b} h e=>by subst e;omega) h
theorem ZaS {l:List Pr} (h:GoodL l):l.length≤4096:=by
 have hn:(l.map fun p=>p.1*64+p.2).Nodup:=by
  rw [List.nodup_iff_pairwise_ne,List.pairwise_map]
  refine List.Pairwise.imp_of_mem (fun {a b} ha hb hab=>?_) h.asc
  have h1:=h.small a ha
  have h2:=h.small b hb
  show a.1*64+a.2≠b.1*64+b.2
  omega
 have:=Z23 4096 _ hn fun x hx=>by
  obtain⟨p,hp,rfl⟩:=List.mem_map.1 hx
  have:=h.small p hp
  show p.1*64+p.2<4096
  omega
 rwa [List.length_map] at this
theorem ZV {α:Type} {l:List α} {i:Nat} (hi:i<l.length):l.take (i+1)=l.take i ++ [l[i]]:=by rw [List.take_add_one,List.getElem?_eq_getElem hi]; rfl
set_option maxRecDepth 100000 in
set_option maxHeartbeats 16000000 in
theorem Z8s {t:PB} (h:PbOk t):Spec Tryz.prog 47 [.agg (pbR t)] fun r=>∃ S,r=.tup [.agg (pbP t S),.val (.bool true)]:=by
 have hpr:=Z2O t
 have hgl:=h.good
 have hll:=ZaS hgl
 have hnl:=Z1Z t.l
 have hst:t.st<18446744073709551616:=by
  have h1:t.st≤mkN t.n:=by rw [← h.st]; exact Nat.left_le_or
  have:=Z3F h.n.2
  omega
 have hpl:∀ D,innLL D (t.l.map prC):=fun D=>Zm (fun _ h=>h.elim) _ (Zf t.l)
 have hpc:∀ D,innL D (pbR t):=fun D=>Z18 (fun _ h=>h.elim) _ hpr
 have hhp:∀ D l S,(hierP l S).inn D:=fun D l S=>PV.inn_mono (fun _ h=>h.elim) _ (Zw l S)
 have hcu:∀ (l:List Cu) D,innLL D (l.map cuC):=fun l D=>Zm (fun _ h=>h.elim) _ (Z1c l)
 refine Z4 ok47 (Nat.le_of_ble_eq_true rfl) fun C hC=>?_
 refine Zk ?_
 refine Zb ?_
 refine Z6 rfl rfl rfl ?_
 (repeat'(first|refine Z2 13 ?_|refine Z0 13 ?_|refine st ?_|(apply B<;>intro hb<;>try cases hb)))<;>try refine At.mk ?_
 refine Z73 rfl rfl (.inl rfl) Z4T trivial ?_
 rintro r ⟨S0,rfl⟩
 (repeat'(first|refine Z2 16 ?_|refine Z0 16 ?_|refine st ?_|(apply B<;>intro hb<;>try cases hb)))<;>try refine At.mk ?_
 refine Zx (Z4G t.st hst) rfl rfl rfl ⟨trivial,trivial⟩ ?_
 (repeat'(first|refine Z2 19 ?_|refine Z0 19 ?_|refine st ?_|(apply B<;>intro hb<;>try cases hb)))<;>try refine At.mk ?_
 refine Zx (Z4S t.nv false h.nv64 (by have:=h.nl;omega)) rfl rfl rfl ⟨Z13 _,trivial⟩ ?_
 (repeat'(first|refine Z2 22 ?_|refine Z0 22 ?_|refine st ?_|(apply B<;>intro hb<;>try cases hb)))<;>try refine At.mk ?_
 refine Zx (Z4S t.gl false h.gl64 (by have:=h.gk;omega)) rfl rfl rfl ⟨Z13 _,trivial⟩ ?_
 (refine go ?_;repeat' (apply B<;>intro hb<;>try cases hb))
 refine ZF hC (fun (z:Nat×List Nat)=>z.1≤t.l.length) (fun z=>t.l.length-z.1) 16 (fun z => [(1,.cp (pbR t)),(2,.ptr 0 0 0),(4,.ptr 14 0 0),(25,.vec (t.l.map prC) false),(26,.val (.int .i64 t.l.length)),(27,.val (.int .i64 (z.1:Int)))])
  (fun z => [(0,⟨6,[zpv [.int .i64 0,.pointer none,.slice none 0 0,.slice none 0 0,.slice none 0 0,.slice none 0 0]]⟩),(14,⟨6,[[.val (.int .i64 (t.n:Int)),hierP (t.l.take z.1) z.2,.vec (words (digs t.st)) false,.vec [] true,.vec (t.nv.map cuC) false,.vec (t.gl.map cuC) false]]⟩)]) (Nat.zero_le _) (0,S0) (Nat.zero_le _)
  ⟨⟨rfl,hpc _⟩,⟨rfl,show (0:Nat)<16 by decide⟩,⟨rfl,show (14:Nat)<16 by decide⟩,⟨rfl,hpl _⟩,⟨by rw [← hnl]; rfl,trivial⟩,⟨rfl,trivial⟩,trivial⟩
  ⟨⟨by decide,rfl,⟨⟨trivial,trivial,trivial,trivial,trivial,trivial,trivial⟩,trivial⟩⟩,⟨by decide,rfl,⟨⟨trivial,hhp _ _ _,Zi _ _,trivial,hcu _ _,hcu _ _,trivial⟩,trivial⟩⟩,trivial⟩ ?_
 rintro⟨i,S⟩ hi
 dsimp only at hi
 have hinc:IntKind.i64.wrap ((i:Int)+1)=((i+1:Nat):Int):=IntWalk.i64_in _ ⟨by omega,by omega⟩
 (repeat'(first|refine Z2 28 ?_|refine Z0 28 ?_|refine st ?_|(apply B<;>intro hb<;>try cases hb)))<;>try refine At.mk ?_
 refine Zl rfl rfl rfl (fun hb=>?_) (fun hb=>?_)
 · have hil : i < t.l.length := by have := of_decide_eq_true hb; omega
   have htk:=ZV hil
   have hro:=hgl.role _ (List.getElem_mem hil)
   have hsub:∀ p∈t.l.take i ++ [t.l[i]],p∈t.l:=fun p hp=>by rw [← htk] at hp; exact List.mem_of_mem_take hp
   have hno:t.l[i] ∉ t.l.take i:=fun h=>by
    have hnd:=SortedP.nd (SortedP.tk hgl.asc (i+1))
    rw [htk,List.nodup_append] at hnd
    exact hnd.2.2 _ h _ (List.mem_singleton.2 rfl) rfl
   clear hb
   (refine go ?_;repeat' (apply B<;>intro hb<;>try cases hb))
   refine Z5 (Zn (xs:=t.l) (g:=prC) rfl rfl i rfl hil rfl) rfl rfl ?_
   generalize t.l[i]=p at htk hro hsub hno ⊢
   have hls:=Zdt (t.l.take i) S p.1 p.2 (by omega) (by omega) hro.2.2.2.2 (fun q hq=>hgl.small q (List.mem_of_mem_take hq)) (SortedP.nd (SortedP.tk hgl.asc i)) hno (hgl.acy.sub hsub) (by rw [List.length_take];omega)
   (repeat'(first|refine Z2 38 ?_|refine Z0 38 ?_|refine st ?_|(apply B<;>intro hb<;>try cases hb)))<;>try refine At.mk ?_
   refine ZC rfl rfl hls ⟨Zw _ _,trivial,trivial,trivial⟩ rfl ?_
   rintro r ⟨l',S',hpm,hst,rfl⟩
   have hle:l'=t.l.take (i+1):=by
    have hx1:l'.Perm (t.l.take (i+1)):=by rw [htk]; exact hpm
    exact Z4V hst (SortedP.tk hgl.asc (i+1)) hx1
   subst hle
   (refine go ?_;repeat' (apply B<;>intro hb<;>try cases hb))
   exact⟨(i+1,S'),hil,by show t.l.length-(i+1)<t.l.length-i; omega,⟨⟨rfl,hpc _⟩,⟨rfl,show (0:Nat)<16 by decide⟩,⟨rfl,show (14:Nat)<16 by decide⟩,⟨rfl,hpl _⟩,⟨rfl,trivial⟩,⟨by show some _=some _; rw [hinc],trivial⟩,trivial⟩,
    ⟨⟨by decide,rfl,⟨⟨trivial,trivial,trivial,trivial,trivial,trivial,trivial⟩,trivial⟩⟩,⟨by decide,rfl,⟨⟨trivial,hhp _ _ _,Zi _ _,trivial,hcu _ _,hcu _ _,trivial⟩,trivial⟩⟩,trivial⟩⟩
 · have hil : i = t.l.length := by have := of_decide_eq_false hb; omega
   subst hil
   clear hb hinc hi
   rw [List.take_length]
   (repeat'(first|refine Z2 50 ?_|refine Z0 50 ?_|refine st ?_|(apply B<;>intro hb<;>try cases hb)))<;>try refine At.mk ?_
   refine Zd (ZO (id:=14) (i0:=0) (j0:=3) rfl (Nat.le_of_ble_eq_true rfl) (Nat.le_of_ble_eq_true rfl) rfl 5 (by decide) (by decide)) ?_
   (refine go ?_;repeat' (apply B<;>intro hb<;>try cases hb))
   have hnr:=Z7F t.rs
   have hrl:=h.rl
   refine ZJ hC (fun (i:Nat)=>i≤t.rs.length) (fun i=>t.rs.length-i) 17 (fun i => [(2,.ptr 0 0 0),(4,.ptr 14 0 0),(48,.vec (t.rs.map ruR) false),(49,.val (.int .i64 (t.rs.length:Int))),(50,.val (.int .i64 (i:Int)))])
    (fun i => [(0,⟨6,[zpv [.int .i64 0,.pointer none,.slice none 0 0,.slice none 0 0,.slice none 0 0,.slice none 0 0]]⟩),(14,⟨6,[[.val (.int .i64 (t.n:Int)),hierP t.l S,.vec (words (digs t.st)) false,.own 16,.vec (t.nv.map cuC) false,.vec (t.gl.map cuC) false]]⟩),(16,⟨5,(t.rs.take i).map ruP⟩)]) (Nat.zero_le _) 0 (Nat.zero_le _) (fun i=>i) (fun _ _=>rfl) Zo
    ⟨⟨_,rfl,.ptr (ρ:=fun i=>i) 0 0 0 (by decide)⟩,⟨_,rfl,.ptr (ρ:=fun i=>i) 14 0 0 (by decide)⟩,⟨_,rfl,.pure _ (Z1l _)⟩,⟨_,by rw [← hnr]; rfl,.pure _ trivial⟩,⟨_,rfl,.pure _ trivial⟩,trivial⟩
    ⟨⟨by decide,_,rfl,.same _ ⟨⟨trivial,trivial,trivial,trivial,trivial,trivial,trivial⟩,trivial⟩⟩,⟨by decide,_,rfl,RenB.single ⟨.pure _ trivial,.pure _ (Zw _ _),.pure _ (Zc _),.own (ρ:=fun i=>i) 16 (by decide),.pure _ (Z1c _),.pure _ (Z1c _),trivial⟩ rfl⟩,⟨by decide,_,rfl,.same _ trivial⟩,trivial⟩ ?_
   intro i hi
   have hinc:IntKind.i64.wrap ((i:Int)+1)=((i+1:Nat):Int):=IntWalk.i64_in _ ⟨by omega,by omega⟩
   (repeat'(first|refine Z2 51 ?_|refine Z0 51 ?_|refine st ?_|(apply B<;>intro hb<;>try cases hb)))<;>try refine At.mk ?_
   by_cases hil:i<t.rs.length
   · have htk := ZV hil
     have hcu64:=(h.rs _ (List.getElem_mem hil)).cu.lt h.n.2
     refine Z5 (Za (v:=true) rfl (decide_eq_true (Int.ofNat_lt.2 hil))) rfl rfl ?_
     (refine go ?_;repeat' (apply B<;>intro hb<;>try cases hb))
     refine Z5 (Zn (xs:=t.rs) (g:=ruR) rfl rfl i rfl hil rfl) rfl rfl ?_
     generalize t.rs[i]=x at htk hcu64 ⊢
     (repeat'(first|refine Z2 57 ?_|refine Z0 57 ?_|refine st ?_|(apply B<;>intro hb<;>try cases hb)))<;>try refine At.mk ?_
     refine Zs rfl rfl rfl ?_
     (repeat'(first|refine Z2 60 ?_|refine Z0 60 ?_|refine st ?_|(apply B<;>intro hb<;>try cases hb)))<;>try refine At.mk ?_
     refine Zx (Z5S x.cu hcu64) rfl rfl rfl ⟨Z2m _,trivial⟩ ?_
     (repeat'(first|refine Z2 67 ?_|refine Z0 67 ?_|refine st ?_|(apply B<;>intro hb<;>try cases hb)))<;>try refine At.mk ?_
     refine Zs (Zu (k:=16) (m := [ruP x]) (fl:=true) rfl rfl rfl (fun q hq=>by rw [List.mem_singleton] at hq; subst hq; rfl) rfl (by
      show (((t.rs.take i).map ruP).length+1)*72≤_
      rw [List.length_map,List.length_take];omega)) rfl rfl ?_
     (refine go ?_;repeat' (apply B<;>intro hb<;>try cases hb))
     refine⟨i+1,mv 16 31,hil,by show t.rs.length-(i+1)<t.rs.length-i; omega,fun i hi=>absurd hi (Nat.not_lt_zero i),ZA rfl,
      ⟨⟨_,rfl,.ptr (ρ:=mv 16 31) 0 0 0 (by decide)⟩,⟨_,rfl,.ptr (ρ:=mv 16 31) 14 0 0 (by decide)⟩,⟨_,rfl,.pure _ (Z1l _)⟩,⟨_,rfl,.pure _ trivial⟩,⟨_,by show some _=some _; rw [hinc],.pure _ trivial⟩,trivial⟩,
      ⟨⟨by decide,_,rfl,.same _ ⟨⟨trivial,trivial,trivial,trivial,trivial,trivial,trivial⟩,trivial⟩⟩,⟨by decide,_,rfl,RenB.single ⟨.pure _ trivial,.pure _ (Zw _ _),.pure _ (Zc _),.own (ρ:=mv 16 31) 16 (by decide),.pure _ (Z1c _),.pure _ (Z1c _),trivial⟩ rfl⟩,⟨by decide,_,rfl,?_⟩,trivial⟩⟩
     show RenB _ _ ⟨5,(t.rs.take i).map ruP ++ [ruP x]⟩ ⟨5,(t.rs.take (i+1)).map ruP⟩
     rw [htk,List.map_append]
     exact .same _ (by rw [← List.map_singleton,← List.map_append]; exact ZX _)
   · have hil : i = t.rs.length := by omega
     subst hil
     rw [List.take_length]
     refine Zd (ZB (ob:=14) (id:=16) (i0:=0) (j0:=3) rfl rfl (by decide) (ZX t.rs) (Nat.le_of_ble_eq_true rfl) (Nat.le_of_ble_eq_true rfl) rfl) ?_
     refine Z5 (Za (v:=false) rfl (decide_eq_false (Int.lt_irrefl _))) rfl rfl ?_
     repeat' (first|refine Z2E [] [(0,16)] [63,63,63,63,47,63] (by kernel_rfl) ?_|(first|refine st ?_|(apply B<;>intro hb<;>try cases hb)))
     exact Z8 rfl ⟨Z17 t S,trivial,trivial⟩ ⟨S,rfl⟩
set_option maxHeartbeats 4000000 in
theorem ZbR (p:List Nat) (fl:Bool) (hp:Bytes p):Spec Tryz.prog 14 [.vec (bys p) fl] fun r=>∃ t S,MkOk t∧r=.tup [.agg (pbP t S),.agg (pbR t),.val (.bool true)]:=by
 refine Z4 ok14 (Nat.le_of_ble_eq_true rfl) fun C hC=>?_
 (repeat'(first|refine Z2 9 ?_|refine Z0 9 ?_|refine st ?_|(apply B<;>intro hb<;>try cases hb)))<;>try refine At.mk ?_
 refine ZC rfl rfl (Z9I p fl hp) ⟨Z7y p,trivial⟩ rfl ?_
 rintro r ⟨t,ht,rfl⟩
 have hpr:=Z2O t
 (repeat'(first|refine Z2 12 ?_|refine Z0 12 ?_|refine st ?_|(apply B<;>intro hb<;>try cases hb)))<;>try refine At.mk ?_
 refine ZC rfl rfl (Z8s ht.ok) ⟨hpr,trivial⟩ rfl ?_
 rintro r ⟨S,rfl⟩
 have hpp:=Z17 t S
 repeat' (first|refine Z2E [] [(0,8)] [63,63,63,55,63,63] (by kernel_rfl) ?_|(first|refine st ?_|(apply B<;>intro hb<;>try cases hb)))
 exact Z8 rfl ⟨hpp,hpr,trivial,trivial⟩ ⟨t,S,ht,rfl⟩
theorem Z9J {α:Type} (p:α→Bool) (xs:List α):(!xs.any fun x => !p x)=xs.all p:=by
 induction xs with
 | nil=>rfl
 | cons x xs ih=>rw [List.any_cons,List.all_cons,Bool.not_or,ih,Bool.not_not]
theorem Z9K {n:Nat} {e:Env} {h:Heap} {a:Operand} {l:List PV} (ha:ev e a=some (.agg l)) (hl:0<l.length):fEval (.box a) e h n=some (.cp l,h):=by
 simp only [fEval,ha]
 rw [if_pos (by show (true&&decide (0<l.length))=true; rw [decide_eq_true hl]; rfl)]
 rfl
set_option maxHeartbeats 1000000 in
theorem Z60 {α:Type} (xs:List α) (enc:α→List PV) (fl:Bool) (g:Nat) (caps:List PV) (p:α→Bool) (hl:∀ x,(enc x).length=5) (hp:∀ x,pureL (enc x)) (hc:pureL caps) (hg:∀ x∈xs,Spec Tryz.prog g (.agg (enc x) :: caps) (· = .val (.bool (p x)))) :
 Spec Tryz.prog 158 [.vec (xs.map enc) fl,.fn g caps] (· = .val (.int .i64 (idxI p xs))):=by
 refine Z4 ok158 (Nat.le_of_ble_eq_true rfl) fun C hC=>?_
 refine Z31 (k:=0) rfl fun hmax=>?_
 have hnl:(xs.map enc).length=xs.length:=by simp
 have hlm:xs.length≤maxVec:=by simpa using hmax
 (refine go ?_;repeat' (apply B<;>intro hb<;>try cases hb))
 refine Z3n (fun i=>i≤xs.length∧(xs.take i).any p=false) (fun i=>xs.length-i) (fun i => [(0,.vec (xs.map enc) fl),(1,.fn g caps),(7,.val (.int .i64 (xs.length:Int))),(8,.val (.int .i64 (i:Int)))]) 0 ⟨Nat.zero_le _,rfl⟩ ⟨rfl,rfl,by rw [← hnl]; rfl,rfl,trivial⟩ ?_
 rintro i ⟨hi,hno⟩
 have hinc:IntKind.i64.wrap ((i:Int)+1)=((i+1:Nat):Int):=IntWalk.i64_in _ ⟨by omega,by simp only [maxVec] at hlm; omega⟩
 (refine go ?_;repeat' (apply B<;>intro hb<;>try cases hb))
 · have hil : i < xs.length := by simpa using hb
   refine Z5 (Zn (xs:=xs) rfl rfl i rfl hil (hl _)) rfl rfl ?_
   refine Z5 (Z3r rfl (hl _)) rfl rfl ?_
   refine Z7 (hg _ (List.getElem_mem hil)) rfl rfl rfl ⟨hp _,hc⟩ rfl ?_
   refine Z1A ?_
   refine Z4A rfl (fun hx=>?_) (fun hx=>?_)
   · (refine go ?_;repeat' (apply B<;>intro hb<;>try cases hb))
     exact Z8 rfl trivial (by rw [Z4E hil hno hx])
   · (refine go ?_;repeat' (apply B<;>intro hb<;>try cases hb))
     exact⟨i+1,⟨by omega,Z3s hil hno hx⟩,by omega,rfl,rfl,⟨rfl,rfl,rfl,by show some _=some _; rw [hinc],trivial⟩⟩
 · have hil : i = xs.length := by simp at hb; omega
   subst hil
   rw [List.take_length] at hno
   exact Z8 rfl trivial (by rw [Z2d hno]; rfl)
theorem Z4q {α:Type} (xs:List α) (enc:α→List PV) (fl:Bool) (g:Nat) (caps:List PV) (p:α→Bool) (hl:∀ x,(enc x).length=5) (hp:∀ x,pureL (enc x)) (hc:pureL caps) (hg:∀ x∈xs,Spec Tryz.prog g (.agg (enc x) :: caps) (· = .val (.bool (p x)))) :
 Spec Tryz.prog 118 [.vec (xs.map enc) fl,.fn g caps] (· = .val (.bool (xs.any p))):=by
 refine Z4 ok118 (Nat.le_of_ble_eq_true rfl) fun C hC=>?_
 (refine go ?_;repeat' (apply B<;>intro hb<;>try cases hb))
 refine Z7 (Z60 xs enc fl g caps p hl hp hc hg) rfl rfl rfl ⟨Zg hp xs,hc,trivial⟩ rfl ?_
 refine Z5 (Za rfl (Z5c (p:=p) (xs:=xs))) rfl rfl ?_
 (refine go ?_;repeat' (apply B<;>intro hb<;>try cases hb))
 all_goals exact Z8 rfl trivial (by rw [hb])
set_option maxHeartbeats 1000000 in
theorem Z61 {α:Type} (xs:List α) (enc:α→List PV) (fl:Bool) (g:Nat) (caps:List PV) (p:α→Bool) (hl:∀ x,(enc x).length=2) (hp:∀ x,pureL (enc x)) (hc:pureL caps) (hg:∀ x∈xs,Spec Tryz.prog g (.agg (enc x) :: caps) (· = .val (.bool (p x)))) :
 Spec Tryz.prog 175 [.vec (xs.map enc) fl,.fn g caps] (· = .val (.int .i64 (idxI p xs))):=by
 refine Z4 ok175 (Nat.le_of_ble_eq_true rfl) fun C hC=>?_
 refine Z31 (k:=0) rfl fun hmax=>?_
 have hnl:(xs.map enc).length=xs.length:=by simp
 have hlm:xs.length≤maxVec:=by simpa using hmax
 (refine go ?_;repeat' (apply B<;>intro hb<;>try cases hb))
 refine Z3n (fun i=>i≤xs.length∧(xs.take i).any p=false) (fun i=>xs.length-i) (fun i => [(0,.vec (xs.map enc) fl),(1,.fn g caps),(7,.val (.int .i64 (xs.length:Int))),(8,.val (.int .i64 (i:Int)))]) 0 ⟨Nat.zero_le _,rfl⟩ ⟨rfl,rfl,by rw [← hnl]; rfl,rfl,trivial⟩ ?_
 rintro i ⟨hi,hno⟩
 have hinc:IntKind.i64.wrap ((i:Int)+1)=((i+1:Nat):Int):=IntWalk.i64_in _ ⟨by omega,by simp only [maxVec] at hlm; omega⟩
 (refine go ?_;repeat' (apply B<;>intro hb<;>try cases hb))
 · have hil : i < xs.length := by simpa using hb
   refine Z5 (Zn (xs:=xs) rfl rfl i rfl hil (hl _)) rfl rfl ?_
   refine Z5 (Z3r rfl (hl _)) rfl rfl ?_
   refine Z7 (hg _ (List.getElem_mem hil)) rfl rfl rfl ⟨hp _,hc⟩ rfl ?_
   refine Z1A ?_
   refine Z4A rfl (fun hx=>?_) (fun hx=>?_)
   · (refine go ?_;repeat' (apply B<;>intro hb<;>try cases hb))
     exact Z8 rfl trivial (by rw [Z4E hil hno hx])
   · (refine go ?_;repeat' (apply B<;>intro hb<;>try cases hb))
     exact⟨i+1,⟨by omega,Z3s hil hno hx⟩,by omega,rfl,rfl,⟨rfl,rfl,rfl,by show some _=some _; rw [hinc],trivial⟩⟩
 · have hil : i = xs.length := by simp at hb; omega
   subst hil
   rw [List.take_length] at hno
   exact Z8 rfl trivial (by rw [Z2d hno]; rfl)
theorem Z4r {α:Type} (xs:List α) (enc:α→List PV) (fl:Bool) (g:Nat) (caps:List PV) (p:α→Bool) (hl:∀ x,(enc x).length=2) (hp:∀ x,pureL (enc x)) (hc:pureL caps) (hg:∀ x∈xs,Spec Tryz.prog g (.agg (enc x) :: caps) (· = .val (.bool (p x)))) :
 Spec Tryz.prog 154 [.vec (xs.map enc) fl,.fn g caps] (· = .val (.bool (xs.any p))):=by
 refine Z4 ok154 (Nat.le_of_ble_eq_true rfl) fun C hC=>?_
 (refine go ?_;repeat' (apply B<;>intro hb<;>try cases hb))
 refine Z7 (Z61 xs enc fl g caps p hl hp hc hg) rfl rfl rfl ⟨Zg hp xs,hc,trivial⟩ rfl ?_
 refine Z5 (Za rfl (Z5c (p:=p) (xs:=xs))) rfl rfl ?_
 (refine go ?_;repeat' (apply B<;>intro hb<;>try cases hb))
 all_goals exact Z8 rfl trivial (by rw [hb])
theorem ZbS {α:Type} (enc:α→List PV) (g:Nat) (caps:List PV) (p:α→Bool) (hl:∀ x,(enc x).length=5) (hp:∀ x,pureL (enc x)) (hc:pureL caps) (x:α) (hg:Spec Tryz.prog g (.agg (enc x) :: caps) (· = .val (.bool (p x)))) :
 Spec Tryz.prog 119 [.agg (enc x),.cp [.fn g caps]] (· = .val (.bool (!p x))):=by
 refine Z4 ok119 (Nat.le_of_ble_eq_true rfl) fun C hC=>?_
 refine Zk ?_
 refine Zb ?_
 refine Z6 (Z9K rfl (by rw [hl]; decide)) rfl rfl ?_
 (repeat'(first|refine Z2 5 ?_|refine Z0 5 ?_|refine st ?_|(apply B<;>intro hb<;>try cases hb)))<;>try refine At.mk ?_
 refine Z5 (Z3r rfl (hl _)) rfl rfl ?_
 refine Z7 hg rfl rfl rfl ⟨hp _,hc⟩ rfl ?_
 generalize p x=b
 cases b
 all_goals
  (refine go ?_;repeat' (apply B<;>intro hb<;>try cases hb))
  exact Z8 rfl trivial rfl
theorem Z8t {α:Type} (xs:List α) (enc:α→List PV) (fl:Bool) (g:Nat) (caps:List PV) (p:α→Bool) (hl:∀ x,(enc x).length=5) (hp:∀ x,pureL (enc x)) (hc:pureL caps) (hg:∀ x∈xs,Spec Tryz.prog g (.agg (enc x) :: caps) (· = .val (.bool (p x)))) :
 Spec Tryz.prog 82 [.vec (xs.map enc) fl,.fn g caps] (· = .val (.bool (xs.all p))):=by
 have hcs:pureL [PV.cp [PV.fn g caps]]:=⟨⟨hc,trivial⟩,trivial⟩
 have h1:=Z4q xs enc fl 119 [.cp [.fn g caps]] (fun x => !p x) hl hp hcs fun x hx=>ZbS enc g caps p hl hp hc x (hg x hx)
 rw [← Z9J]
 refine Z4 ok82 (Nat.le_of_ble_eq_true rfl) fun C hC=>?_
 refine Zk ?_
 refine Zb ?_
 refine Z6 rfl rfl rfl ?_
 (repeat'(first|refine Z2 7 ?_|refine Z0 7 ?_|refine st ?_|(apply B<;>intro hb<;>try cases hb)))<;>try refine At.mk ?_
 refine Z7 h1 rfl rfl rfl ⟨Zg hp xs,hcs,trivial⟩ rfl ?_
 generalize (xs.any fun x => !p x)=b
 cases b
 all_goals
  (refine go ?_;repeat' (apply B<;>intro hb<;>try cases hb))
  exact Z8 rfl trivial rfl
theorem ZbT {α:Type} (enc:α→List PV) (g:Nat) (caps:List PV) (p:α→Bool) (hl:∀ x,(enc x).length=2) (hp:∀ x,pureL (enc x)) (hc:pureL caps) (x:α) (hg:Spec Tryz.prog g (.agg (enc x) :: caps) (· = .val (.bool (p x)))) :
 Spec Tryz.prog 155 [.agg (enc x),.cp [.fn g caps]] (· = .val (.bool (!p x))):=by
 refine Z4 ok155 (Nat.le_of_ble_eq_true rfl) fun C hC=>?_
 refine Zk ?_
 refine Zb ?_
 refine Z6 (Z9K rfl (by rw [hl]; decide)) rfl rfl ?_
 (repeat'(first|refine Z2 5 ?_|refine Z0 5 ?_|refine st ?_|(apply B<;>intro hb<;>try cases hb)))<;>try refine At.mk ?_
 refine Z5 (Z3r rfl (hl _)) rfl rfl ?_
 refine Z7 hg rfl rfl rfl ⟨hp _,hc⟩ rfl ?_
 generalize p x=b
 cases b
 all_goals
  (refine go ?_;repeat' (apply B<;>intro hb<;>try cases hb))
  exact Z8 rfl trivial rfl
theorem ZdA {α:Type} (xs:List α) (enc:α→List PV) (fl:Bool) (g:Nat) (caps:List PV) (p:α→Bool) (hl:∀ x,(enc x).length=2) (hp:∀ x,pureL (enc x)) (hc:pureL caps) (hg:∀ x∈xs,Spec Tryz.prog g (.agg (enc x) :: caps) (· = .val (.bool (p x)))) :
 Spec Tryz.prog 112 [.vec (xs.map enc) fl,.fn g caps] (· = .val (.bool (xs.all p))):=by
 have hcs:pureL [PV.cp [PV.fn g caps]]:=⟨⟨hc,trivial⟩,trivial⟩
 have h1:=Z4r xs enc fl 155 [.cp [.fn g caps]] (fun x => !p x) hl hp hcs fun x hx=>ZbT enc g caps p hl hp hc x (hg x hx)
 rw [← Z9J]
 refine Z4 ok112 (Nat.le_of_ble_eq_true rfl) fun C hC=>?_
 refine Zk ?_
 refine Zb ?_
 refine Z6 rfl rfl rfl ?_
 (repeat'(first|refine Z2 7 ?_|refine Z0 7 ?_|refine st ?_|(apply B<;>intro hb<;>try cases hb)))<;>try refine At.mk ?_
 refine Z7 h1 rfl rfl rfl ⟨Zg hp xs,hcs,trivial⟩ rfl ?_
 generalize (xs.any fun x => !p x)=b
 cases b
 all_goals
  (refine go ?_;repeat' (apply B<;>intro hb<;>try cases hb))
  exact Z8 rfl trivial rfl
theorem ZbU {α:Type} (enc:α→List PV) (g:Nat) (caps:List PV) (p:α→Bool) (hl:∀ x,(enc x).length=2) (hp:∀ x,pureL (enc x)) (hc:pureL caps) (x:α) (hg:Spec Tryz.prog g (.agg (enc x) :: caps) (· = .val (.bool (p x)))) :
 Spec Tryz.prog 157 [.agg (enc x),.cp [.fn g caps]] (· = .val (.bool (!p x))):=by
 refine Z4 ok157 (Nat.le_of_ble_eq_true rfl) fun C hC=>?_
 refine Zk ?_
 refine Zb ?_
 refine Z6 (Z9K rfl (by rw [hl]; decide)) rfl rfl ?_
 (repeat'(first|refine Z2 5 ?_|refine Z0 5 ?_|refine st ?_|(apply B<;>intro hb<;>try cases hb)))<;>try refine At.mk ?_
 refine Z5 (Z3r rfl (hl _)) rfl rfl ?_
 refine Z7 hg rfl rfl rfl ⟨hp _,hc⟩ rfl ?_
 generalize p x=b
 cases b
 all_goals
  (refine go ?_;repeat' (apply B<;>intro hb<;>try cases hb))
  exact Z8 rfl trivial rfl
theorem ZdB {α:Type} (xs:List α) (enc:α→List PV) (fl:Bool) (g:Nat) (caps:List PV) (p:α→Bool) (hl:∀ x,(enc x).length=2) (hp:∀ x,pureL (enc x)) (hc:pureL caps) (hg:∀ x∈xs,Spec Tryz.prog g (.agg (enc x) :: caps) (· = .val (.bool (p x)))) :
 Spec Tryz.prog 116 [.vec (xs.map enc) fl,.fn g caps] (· = .val (.bool (xs.all p))):=by
 have hcs:pureL [PV.cp [PV.fn g caps]]:=⟨⟨hc,trivial⟩,trivial⟩
 have h1:=Z1H xs enc fl 157 [.cp [.fn g caps]] (fun x => !p x) hl hp hcs fun x hx=>ZbU enc g caps p hl hp hc x (hg x hx)
 rw [← Z9J]
 refine Z4 ok116 (Nat.le_of_ble_eq_true rfl) fun C hC=>?_
 refine Zk ?_
 refine Zb ?_
 refine Z6 rfl rfl rfl ?_
 (repeat'(first|refine Z2 7 ?_|refine Z0 7 ?_|refine st ?_|(apply B<;>intro hb<;>try cases hb)))<;>try refine At.mk ?_
 refine Z7 h1 rfl rfl rfl ⟨Zg hp xs,hcs,trivial⟩ rfl ?_
 generalize (xs.any fun x => !p x)=b
 cases b
 all_goals
  (refine go ?_;repeat' (apply B<;>intro hb<;>try cases hb))
  exact Z8 rfl trivial rfl
abbrev RI:=Bool×Cu×Int×Int
def ruI (x:RI):List PV := [.val (.bool x.1),.vec (words (digs x.2.1.1)) false,.vec (words (digs x.2.1.2)) false,.val (.int .i64 x.2.2.1),.val (.int .i64 x.2.2.2)]
def toI (r:RU):RI:=(r.rev,r.cu,(r.tg:Int),(r.og:Int))
theorem Z7G (x:RI):pureL (ruI x):=⟨trivial,Zc _,Zc _,trivial,trivial,trivial⟩
theorem Z3d (l:List RI):pureLL (l.map ruI):=Zg Z7G l
noncomputable def prbI (n:Int) (l:List Pr) (S:List Nat) (s0:Nat) (rs:List RI) (nv gl:List Cu):List PV := [.val (.int .i64 n),hierP l S,.vec (words (digs s0)) false,.vec (rs.map ruI) false,.vec (nv.map cuC) false,.vec (gl.map cuC) false]
theorem Z62 (n:Int) (l:List Pr) (S:List Nat) (s0:Nat) (rs:List RI) (nv gl:List Cu):pureL (prbI n l S s0 rs nv gl):=⟨trivial,Zw _ _,Zc _,Z3d _,Z1c _,Z1c _,trivial⟩
theorem ZgR (t:PB) (S:List Nat):pbP t S=prbI t.n t.l S t.st (t.rs.map toI) t.nv t.gl:=by
 unfold pbP prbI
 rw [List.map_map]; rfl
def cubI (rs:List RI) (nv gl:List Cu):List Cu:=rs.map (·.2.1)++nv++gl
set_option maxHeartbeats 2000000 in
theorem Z6T (n:Int) (l:List Pr) (S:List Nat) (s0:Nat) (rs:List RI) (nv gl:List Cu) (h1:rs.length≤10000) (h2:nv.length≤10000) (h3:gl.length≤10000):Spec Tryz.prog 81 [.agg (prbI n l S s0 rs nv gl)] (· = .vec ((cubI rs nv gl).map cuC) false):=by
 have hpp:=Z62 n l S s0 rs nv gl
 have hrl:(rs.map ruI).length=rs.length:=by simp
 refine Z4 ok81 (Nat.le_of_ble_eq_true rfl) fun C hC=>?_
 refine Zk ?_
 refine Zb ?_
 refine Z6 rfl rfl rfl ?_
 repeat' (first|refine Zd (ZG (k:=3) rfl 2 (by decide)) ?_|(first|refine st ?_|(apply B<;>intro hb<;>try cases hb)))
 refine ZJ hC (fun (i:Nat)=>i≤rs.length) (fun i=>rs.length-i) 1 (fun i => [(1,.cp (prbI n l S s0 rs nv gl)),(3,.own 0),(7,.vec (rs.map ruI) false),(8,.val (.int .i64 (rs.length:Int))),(9,.val (.int .i64 (i:Int)))])
  (fun i => [(0,⟨2,((rs.take i).map (·.2.1)).map cuC⟩)]) (Nat.zero_le _) 0 (Nat.zero_le _) (fun i=>i) (fun _ _=>rfl) Zo
  ⟨⟨_,rfl,.pure _ hpp⟩,⟨_,rfl,.own 0 (by decide)⟩,⟨_,rfl,.pure _ (Z3d _)⟩,⟨_,by rw [← hrl]; rfl,.pure _ trivial⟩,⟨_,rfl,.pure _ trivial⟩,trivial⟩ ⟨⟨by decide,_,rfl,.same _ trivial⟩,trivial⟩ ?_
 intro i hi
 have hinc:IntKind.i64.wrap ((i:Int)+1)=((i+1:Nat):Int):=IntWalk.i64_in _ ⟨by omega,by omega⟩
 iterate 2 (first|refine st ?_|(apply B<;>intro hb<;>try cases hb))
 refine Zl rfl rfl rfl (fun hb=>?_) (fun hb=>?_)
 · have hil : i < rs.length := by have := of_decide_eq_true hb; omega
   have htake:=ZV hil
   clear hb
   (refine go ?_;repeat' (apply B<;>intro hb<;>try cases hb))
   refine Z5 (Zn (xs:=rs) (g:=ruI) rfl rfl i rfl hil rfl) rfl rfl ?_
   generalize rs[i]=x at htake ⊢
   (repeat'(first|refine Z2 17 ?_|refine Z0 17 ?_|refine st ?_|(apply B<;>intro hb<;>try cases hb)))<;>try refine At.mk ?_
   refine ZE (Zu (k:=0) (m := [cuC x.2.1]) (fl:=true) rfl rfl rfl (fun c hc=>by rw [List.mem_singleton] at hc; subst hc; rfl) rfl (by
    show ((((rs.take i).map (·.2.1)).map cuC).length+1)*48≤_
    rw [List.length_map,List.length_map,List.length_take]
    omega)) rfl rfl ?_
   (refine go ?_;repeat' (apply B<;>intro hb<;>try cases hb))
   refine⟨i+1,mv 0 2,by omega,by omega,fun i hi=>absurd hi (Nat.not_lt_zero i),ZA rfl,
    ⟨⟨_,rfl,.pure _ hpp⟩,⟨_,rfl,.own 0 (by decide)⟩,⟨_,rfl,.pure _ (Z3d _)⟩,⟨_,rfl,.pure _ trivial⟩,⟨_,by show some _=some _; rw [hinc],.pure _ trivial⟩,trivial⟩,
    ⟨⟨by decide,_,rfl,?_⟩,trivial⟩⟩
   show RenB _ _ ⟨2,((rs.take i).map (·.2.1)).map cuC ++ [cuC x.2.1]⟩ ⟨2,((rs.take (i+1)).map (·.2.1)).map cuC⟩
   rw [htake,List.map_append,List.map_append]
   exact .same _ (by show pureLL (((rs.take i).map (·.2.1)).map cuC ++ [x.2.1].map cuC); rw [← List.map_append]; exact Z1 _)
 · have hil : i = rs.length := by have := of_decide_eq_false hb; omega
   subst hil
   clear hb
   rw [List.take_length]
   repeat' (first|refine Z2E [6] [(0,8)] [255,255,255,247,255,255,255,255] (by kernel_rfl) ?_|refine Z0 22 ?_|(first|refine st ?_|(apply B<;>intro hb<;>try cases hb)))
   refine At.mk ?_
   refine Zs (Zu (k:=0) (m:=nv.map cuC) (fl:=false) rfl rfl rfl (fun c hc=>by obtain⟨x,_,rfl⟩:=List.mem_map.1 hc; rfl) rfl (by
    show (((rs.map (·.2.1)).map cuC).length+(nv.map cuC).length)*48≤_
    rw [List.length_map,List.length_map,List.length_map];omega)) rfl rfl ?_
   have happ:((rs.map (·.2.1)).map cuC++nv.map cuC)++gl.map cuC=(cubI rs nv gl).map cuC:=by
    unfold cubI
    rw [List.map_append,List.map_append]
   (repeat'(first|refine Z2 25 ?_|refine Z0 25 ?_|refine st ?_|(apply B<;>intro hb<;>try cases hb)))<;>try refine At.mk ?_
   refine Z91 (k:=4) (m:=gl.map cuC) (fl:=false) (b:=⟨2,(rs.map (·.2.1)).map cuC++nv.map cuC⟩) rfl rfl rfl (fun c hc=>by obtain⟨x,_,rfl⟩:=List.mem_map.1 hc; rfl) rfl (by
    show ((((rs.map (·.2.1)).map cuC)++nv.map cuC).length+(gl.map cuC).length)*48≤_
    rw [List.length_append,List.length_map,List.length_map,List.length_map,List.length_map];omega) (by show pureLL (((rs.map (·.2.1)).map cuC++nv.map cuC)++gl.map cuC); rw [happ]; exact Z1 _) rfl rfl ?_
   (refine go ?_;repeat' (apply B<;>intro hb<;>try cases hb))
   refine Z8 (r:=.vec (((rs.map (·.2.1)).map cuC++nv.map cuC)++gl.map cuC) false) rfl ?_ ?_
   · rw [happ]; exact Z1 _
   · rw [happ]
theorem Z9L (m:Nat) (hm:m<18446744073709551616) (p:Pr):Spec Tryz.prog 114 [.agg (prC p),.cp [.vec (words (digs m)) false]] (· = .val (.bool (m.testBit p.1&&m.testBit p.2))):=by
 refine Z4 ok114 (Nat.le_of_ble_eq_true rfl) fun C hC=>?_
 refine Zk ?_
 refine Zb ?_
 refine Z6 rfl rfl rfl ?_
 (repeat'(first|refine Z2 7 ?_|refine Z0 7 ?_|refine st ?_|(apply B<;>intro hb<;>try cases hb)))<;>try refine At.mk ?_
 refine Z7 (Z1d m hm p.1) rfl rfl rfl ⟨Z3 _,trivial,trivial⟩ rfl ?_
 generalize m.testBit p.1=b
 cases b
 · (refine go ?_;repeat' (apply B<;>intro hb<;>try cases hb))
   exact Z8 rfl trivial rfl
 · (repeat'(first|refine Z2 12 ?_|refine Z0 12 ?_|refine st ?_|(apply B<;>intro hb<;>try cases hb)))<;>try refine At.mk ?_
   refine Zq rfl ?_
   refine Z7 (Z1d m hm p.2) rfl rfl rfl ⟨Z3 _,trivial,trivial⟩ rfl ?_
   generalize m.testBit p.2=b
   cases b
   all_goals
    (refine go ?_;repeat' (apply B<;>intro hb<;>try cases hb))
    exact Z8 rfl trivial rfl
theorem Z9M (m:Nat) (hm:m<18446744073709551616) (x:RI):Spec Tryz.prog 115 [.agg (ruI x),.cp [.vec (words (digs m)) false]] (· = .val (.bool (decide (0≤x.2.2.1)&&m.testBit x.2.2.1.toNat))):=by
 refine Z4 ok115 (Nat.le_of_ble_eq_true rfl) fun C hC=>?_
 refine Zk ?_
 refine Zb ?_
 refine Z6 rfl rfl rfl ?_
 (repeat'(first|refine Z2 7 ?_|refine Z0 7 ?_|refine st ?_|(apply B<;>intro hb<;>try cases hb)))<;>try refine At.mk ?_
 refine Z7 (Z1q m hm x.2.2.1) rfl rfl rfl ⟨Z3 _,trivial,trivial⟩ rfl ?_
 generalize (decide (0≤x.2.2.1)&&m.testBit x.2.2.1.toNat)=b
 cases b
 all_goals
  (refine go ?_;repeat' (apply B<;>intro hb<;>try cases hb))
  exact Z8 rfl trivial rfl
theorem Z9N (m:Nat) (hm:m<18446744073709551616) (c:Cu) (hc:Ok64 c):Spec Tryz.prog 117 [.agg (cuC c),.cp [.vec (words (digs m)) false]] (· = .val (.bool (decide (c.1 ||| c.2 ||| m=m)))):=by
 refine Z4 ok117 (Nat.le_of_ble_eq_true rfl) fun C hC=>?_
 refine Zk ?_
 refine Zb ?_
 refine Z6 rfl rfl rfl ?_
 (repeat'(first|refine Z2 8 ?_|refine Z0 8 ?_|refine st ?_|(apply B<;>intro hb<;>try cases hb)))<;>try refine At.mk ?_
 refine Zx (Z1S c.1 c.2 hc.1 hc.2) rfl rfl rfl ⟨Z3 _,Z3 _,trivial⟩ ?_
 (repeat'(first|refine Z2 10 ?_|refine Z0 10 ?_|refine st ?_|(apply B<;>intro hb<;>try cases hb)))<;>try refine At.mk ?_
 refine Zx (Z1t (c.1 ||| c.2) m (Z1X hc.1 hc.2) hm) rfl rfl rfl ⟨Z3 _,Z3 _,trivial⟩ ?_
 generalize decide (c.1 ||| c.2 ||| m=m)=b
 cases b
 all_goals
  (refine go ?_;repeat' (apply B<;>intro hb<;>try cases hb))
  exact Z8 rfl trivial rfl
def knB (m:Nat) (l:List Pr) (s0:Nat) (rs:List RI) (cs:List Cu):Bool:=decide (s0 ||| m=m)&&(l.all (fun p=>m.testBit p.1&&m.testBit p.2)&&(rs.all (fun x=>decide (0≤x.2.2.1)&&m.testBit x.2.2.1.toNat)&&cs.all fun c=>decide (c.1 ||| c.2 ||| m=m)))
structure Fine (l:List Pr) (s0:Nat) (rs:List RI) (nv gl:List Cu):Prop where
 fl:l.length≤10000
 fs:s0<18446744073709551616
 fr:rs.length≤10000
 fv:nv.length≤10000
 fg:gl.length≤10000
 fc:∀ c∈cubI rs nv gl,Ok64 c
set_option maxHeartbeats 2000000 in
theorem ZbV (n:Nat) (h1:1≤n) (h2:n≤63) (l:List Pr) (S:List Nat) (s0:Nat) (rs:List RI) (nv gl:List Cu) (hf:Fine l s0 rs nv gl):Spec Tryz.prog 80 [.agg (prbI (n:Int) l S s0 rs nv gl)] (· = .val (.bool (knB (mkN n) l s0 rs (cubI rs nv gl)))):=by
 have hp1:2 ^ (n+1)≤2 ^ 64:=Nat.pow_le_pow_right (by decide) (by omega)
 have hp0:=Nat.two_pow_pos (n+1)
 have hmk:=Z3F h2
 have hinc0:IntKind.i64.wrap ((n:Int)+1)=((n+1:Nat):Int):=IntWalk.i64_in _ ⟨by omega,by omega⟩
 have hbw:=Z1F (2 ^ (n+1)-1) (by omega) 0
 rw [Z4n n h2] at hbw
 have hw:=Z1t s0 (mkN n) hf.fs hmk
 have hc1:pureL [PV.vec (words (digs (mkN n))) false]:=⟨Zc _,trivial⟩
 have hcc:pureL [PV.cp [PV.vec (words (digs (mkN n))) false]]:=⟨hc1,trivial⟩
 have hl:=ZbO l S (by have:=hf.fl;omega)
 have ha1:=ZdA l prC false 114 [.cp [.vec (words (digs (mkN n))) false]] _ (fun _=>rfl) (fun x=>Z3p x) hcc fun p _=>Z9L (mkN n) hmk p
 have ha2:=Z8t rs ruI false 115 [.cp [.vec (words (digs (mkN n))) false]] _ (fun _=>rfl) Z7G hcc fun p _=>Z9M (mkN n) hmk p
 have hcb:=Z6T (n:Int) l S s0 rs nv gl hf.fr hf.fv hf.fg
 have ha3:=ZdB (cubI rs nv gl) cuC false 117 [.cp [.vec (words (digs (mkN n))) false]] _ (fun _=>rfl) Zj hcc fun p hp=>Z9N (mkN n) hmk p (hf.fc p hp)
 have hpp:=Z62 (n:Int) l S s0 rs nv gl
 refine Z4 ok80 (Nat.le_of_ble_eq_true rfl) fun C hC=>?_
 refine Zk ?_
 refine Zb ?_
 refine Z6 rfl rfl rfl ?_
 (repeat'(first|refine Z2 6 ?_|refine Z0 6 ?_|refine st ?_|(apply B<;>intro hb<;>try cases hb)))<;>try refine At.mk ?_
 refine Zv rfl rfl rfl hinc0 ?_
 refine Z7 (Z4I (n+1) (by omega) (by omega)) rfl rfl rfl ⟨trivial,trivial⟩ rfl ?_
 refine Z7 hbw rfl rfl rfl ⟨Z3 _,trivial,trivial⟩ rfl ?_
 (repeat'(first|refine Z2 9 ?_|refine Z0 9 ?_|refine st ?_|(apply B<;>intro hb<;>try cases hb)))<;>try refine At.mk ?_
 refine Zd (Z1p (k:=3) rfl rfl hc1) ?_
 (repeat'(first|refine Z2 12 ?_|refine Z0 12 ?_|refine st ?_|(apply B<;>intro hb<;>try cases hb)))<;>try refine At.mk ?_
 refine Z7 hw rfl rfl rfl ⟨Z3 _,Z3 _,trivial⟩ rfl ?_
 unfold knB
 generalize decide (s0 ||| mkN n=mkN n)=b1
 cases b1
 · (refine go ?_;repeat' (apply B<;>intro hb<;>try cases hb))
   exact Z8 rfl trivial rfl
 (repeat'(first|refine Z2 16 ?_|refine Z0 16 ?_|refine st ?_|(apply B<;>intro hb<;>try cases hb)))<;>try refine At.mk ?_
 refine Zq rfl ?_
 refine Z7 hl rfl rfl rfl ⟨Zw _ _,trivial⟩ rfl ?_
 (repeat'(first|refine Z2 18 ?_|refine Z0 18 ?_|refine st ?_|(apply B<;>intro hb<;>try cases hb)))<;>try refine At.mk ?_
 refine Zq rfl ?_
 refine Z7 ha1 rfl rfl rfl ⟨Zf l,hcc,trivial⟩ rfl ?_
 generalize (l.all fun p=>(mkN n).testBit p.1&&(mkN n).testBit p.2)=b2
 cases b2
 · (refine go ?_;repeat' (apply B<;>intro hb<;>try cases hb))
   exact Z8 rfl trivial rfl
 (repeat'(first|refine Z2 24 ?_|refine Z0 24 ?_|refine st ?_|(apply B<;>intro hb<;>try cases hb)))<;>try refine At.mk ?_
 refine Zq rfl ?_
 refine Z7 ha2 rfl rfl rfl ⟨Z3d rs,hcc,trivial⟩ rfl ?_
 generalize (rs.all fun x=>decide (0≤x.2.2.1)&&(mkN n).testBit x.2.2.1.toNat)=b3
 cases b3
 · (refine go ?_;repeat' (apply B<;>intro hb<;>try cases hb))
   exact Z8 rfl trivial rfl
 (repeat'(first|refine Z2 28 ?_|refine Z0 28 ?_|refine st ?_|(apply B<;>intro hb<;>try cases hb)))<;>try refine At.mk ?_
 refine Zq rfl ?_
 refine Z7 hcb rfl rfl rfl ⟨hpp,trivial⟩ rfl ?_
 (repeat'(first|refine Z2 30 ?_|refine Z0 30 ?_|refine st ?_|(apply B<;>intro hb<;>try cases hb)))<;>try refine At.mk ?_
 refine Zq rfl ?_
 refine Z7 ha3 rfl rfl rfl ⟨Z1 _,hcc,trivial⟩ rfl ?_
 generalize ((cubI rs nv gl).all fun c=>decide (c.1 ||| c.2 ||| mkN n=mkN n))=b4
 cases b4
 all_goals
  (refine go ?_;repeat' (apply B<;>intro hb<;>try cases hb))
  exact Z8 rfl trivial rfl
def revB (x:RI):Bool := !x.1||(decide (x.2.1.1=0)&&decide (x.2.1.2=0))
theorem Z9O (x:RI) (hc:Ok64 x.2.1):Spec Tryz.prog 78 [.agg (ruI x)] (· = .val (.bool (revB x))):=by
 obtain⟨rv,c,tg,og⟩:=x
 have e1:=Z4C c.1 hc.1
 have e2:=Z4C c.2 hc.2
 unfold revB
 refine Z4 ok78 (Nat.le_of_ble_eq_true rfl) fun C hC=>?_
 refine Zk ?_
 refine Zb ?_
 refine Z6 rfl rfl rfl ?_
 cases rv
 · (refine go ?_;repeat' (apply B<;>intro hb<;>try cases hb))
   exact Z8 rfl trivial rfl
 (repeat'(first|refine Z2 10 ?_|refine Z0 10 ?_|refine st ?_|(apply B<;>intro hb<;>try cases hb)))<;>try refine At.mk ?_
 refine Zq rfl ?_
 refine Z7 e1 rfl rfl rfl ⟨Z3 _,trivial⟩ rfl ?_
 dsimp only
 generalize decide (c.1=0)=b1
 cases b1
 · (refine go ?_;repeat' (apply B<;>intro hb<;>try cases hb))
   exact Z8 rfl trivial rfl
 (repeat'(first|refine Z2 15 ?_|refine Z0 15 ?_|refine st ?_|(apply B<;>intro hb<;>try cases hb)))<;>try refine At.mk ?_
 refine Zq rfl ?_
 refine Z7 e2 rfl rfl rfl ⟨Z3 _,trivial⟩ rfl ?_
 generalize decide (c.2=0)=b2
 cases b2
 all_goals
  (refine go ?_;repeat' (apply B<;>intro hb<;>try cases hb))
  exact Z8 rfl trivial rfl
set_option maxHeartbeats 1000000 in
theorem ZbW (n:Int) (l:List Pr) (S:List Nat) (s0:Nat) (rs:List RI) (nv gl:List Cu) (h64:∀ c∈nv,Ok64 c) (s:Nat) (hs:s<18446744073709551616):Spec Tryz.prog 83 [.agg (prbI n l S s0 rs nv gl),setN s] (· = .val (.bool (!soC nv (clo l s)))):=by
 have hc:=Z2n l S s hs
 have hso:=Z1x nv false (clo l s) h64 (Z4R _ _)
 refine Z4 ok83 (Nat.le_of_ble_eq_true rfl) fun C hC=>?_
 refine Zk ?_
 refine Zb ?_
 refine Z6 rfl rfl rfl ?_
 refine Z6 rfl rfl rfl ?_
 (repeat'(first|refine Z2 14 ?_|refine Z0 14 ?_|refine st ?_|(apply B<;>intro hb<;>try cases hb)))<;>try refine At.mk ?_
 refine Z2o rfl ?_
 refine Zx hc rfl rfl rfl ⟨Zw _ _,Z3 _,trivial⟩ ?_
 (repeat'(first|refine Z2 15 ?_|refine Z0 15 ?_|refine st ?_|(apply B<;>intro hb<;>try cases hb)))<;>try refine At.mk ?_
 refine Z2o rfl ?_
 refine Zx hso rfl rfl rfl ⟨Z1c _,Z3 _,trivial⟩ ?_
 generalize soC nv (clo l s)=b
 cases b
 all_goals
  (refine go ?_;repeat' (apply B<;>intro hb<;>try cases hb))
  exact Z8 rfl trivial rfl
noncomputable def chkI (n:Int) (l:List Pr) (s0:Nat) (rs:List RI) (nv gl:List Cu):Int :=
 if n<1 ∨ 63<n then 1 else
 if 64<rs.length ∨ 2000<nv.length ∨ 2000<gl.length then 3 else
 if knB (mkN n.toNat) l s0 rs (cubI rs nv gl)=false then 4 else
 if (cubI rs nv gl).any emC=true ∨ rs.all revB=false then 6 else
 if soC nv (clo l s0)=true then 7 else 0
set_option maxHeartbeats 4000000 in
theorem Z9P (n:Int) (l:List Pr) (S:List Nat) (s0:Nat) (rs:List RI) (nv gl:List Cu) (hf:Fine l s0 rs nv gl):Spec Tryz.prog 39 [.agg (prbI n l S s0 rs nv gl)] (· = .val (.int .i64 (chkI n l s0 rs nv gl))):=by
 have hpp:=Z62 n l S s0 rs nv gl
 have hr1:(rs.map ruI).length=rs.length:=by simp
 have hr2:(nv.map cuC).length=nv.length:=by simp
 have hr3:(gl.map cuC).length=gl.length:=by simp
 have hcb:=Z6T n l S s0 rs nv gl hf.fr hf.fv hf.fg
 have hn64:∀ c∈nv,Ok64 c:=fun c hc=>hf.fc c (List.mem_append.2 (.inl (List.mem_append.2 (.inr hc))))
 have hr64:∀ x∈rs,Ok64 x.2.1:=fun x hx=>hf.fc _ (List.mem_append.2 (.inl (List.mem_append.2 (.inl (List.mem_map.2 ⟨x,hx,rfl⟩)))))
 have hce:=Z1H (cubI rs nv gl) cuC false 28 [] emC (fun _=>rfl) Zj trivial fun c hc=>Z16 c (hf.fc c hc)
 have har:=Z8t rs ruI false 78 [] revB (fun _=>rfl) Z7G trivial fun x hx=>Z9O x (hr64 x hx)
 have hgo:=ZbW n l S s0 rs nv gl hn64 s0 hf.fs
 unfold chkI
 refine Z4 ok39 (Nat.le_of_ble_eq_true rfl) fun C hC=>?_
 refine Zk ?_
 refine Zb ?_
 refine Z6 rfl rfl rfl ?_
 (repeat'(first|refine Z2 11 ?_|refine Z0 11 ?_|refine st ?_|(apply B<;>intro hb<;>try cases hb)))<;>try refine At.mk ?_
 refine Zq rfl ?_
 by_cases h1:n<1
 · rw [if_pos (.inl h1)]
   refine Z5 (Za (v:=true) rfl (decide_eq_true h1)) rfl rfl ?_
   (refine go ?_;repeat' (apply B<;>intro hb<;>try cases hb))
   exact Z8 rfl trivial rfl
 refine Z5 (Za (v:=false) rfl (decide_eq_false h1)) rfl rfl ?_
 (repeat'(first|refine Z2 16 ?_|refine Z0 16 ?_|refine st ?_|(apply B<;>intro hb<;>try cases hb)))<;>try refine At.mk ?_
 refine Zq rfl ?_
 by_cases h2:63<n
 · rw [if_pos (.inr h2)]
   refine Z5 (Za (v:=true) rfl (decide_eq_true h2)) rfl rfl ?_
   (refine go ?_;repeat' (apply B<;>intro hb<;>try cases hb))
   exact Z8 rfl trivial rfl
 refine Z5 (Za (v:=false) rfl (decide_eq_false h2)) rfl rfl ?_
 rw [if_neg (show ¬ (n<1 ∨ 63<n) by omega)]
 (repeat'(first|refine Z2 22 ?_|refine Z0 22 ?_|refine st ?_|(apply B<;>intro hb<;>try cases hb)))<;>try refine At.mk ?_
 by_cases h3:64<rs.length
 · rw [if_pos (.inl h3)]
   refine Z5 (Za (v:=true) rfl (decide_eq_true (by rw [hr1];omega))) rfl rfl ?_
   (refine go ?_;repeat' (apply B<;>intro hb<;>try cases hb))
   exact Z8 rfl trivial rfl
 refine Z5 (Za (v:=false) rfl (decide_eq_false (by rw [hr1];omega))) rfl rfl ?_
 (repeat'(first|refine Z2 27 ?_|refine Z0 27 ?_|refine st ?_|(apply B<;>intro hb<;>try cases hb)))<;>try refine At.mk ?_
 refine Zq rfl ?_
 by_cases h4:2000<nv.length
 · rw [if_pos (.inr (.inl h4))]
   refine Z5 (Za (v:=true) rfl (decide_eq_true (by rw [hr2];omega))) rfl rfl ?_
   (refine go ?_;repeat' (apply B<;>intro hb<;>try cases hb))
   exact Z8 rfl trivial rfl
 refine Z5 (Za (v:=false) rfl (decide_eq_false (by rw [hr2];omega))) rfl rfl ?_
 (repeat'(first|refine Z2 33 ?_|refine Z0 33 ?_|refine st ?_|(apply B<;>intro hb<;>try cases hb)))<;>try refine At.mk ?_
 refine Zq rfl ?_
 by_cases h5:2000<gl.length
 · rw [if_pos (.inr (.inr h5))]
   refine Z5 (Za (v:=true) rfl (decide_eq_true (by rw [hr3];omega))) rfl rfl ?_
   (refine go ?_;repeat' (apply B<;>intro hb<;>try cases hb))
   exact Z8 rfl trivial rfl
 refine Z5 (Za (v:=false) rfl (decide_eq_false (by rw [hr3];omega))) rfl rfl ?_
 rw [if_neg (show ¬ (64<rs.length ∨ 2000<nv.length ∨ 2000<gl.length) by omega)]
 obtain⟨k,rfl⟩:∃ k:Nat,n=(k:Int):=⟨n.toNat,by omega⟩
 have hkn:=ZbV k (by omega) (by omega) l S s0 rs nv gl hf
 rw [Int.toNat_natCast]
 (repeat'(first|refine Z2 37 ?_|refine Z0 37 ?_|refine st ?_|(apply B<;>intro hb<;>try cases hb)))<;>try refine At.mk ?_
 refine Z7 hkn rfl rfl rfl ⟨hpp,trivial⟩ rfl ?_
 generalize knB (mkN k) l s0 rs (cubI rs nv gl)=b1
 cases b1
 · rw [if_pos rfl]
   (refine go ?_;repeat' (apply B<;>intro hb<;>try cases hb))
   exact Z8 rfl trivial rfl
 rw [if_neg (by decide)]
 (repeat'(first|refine Z2 41 ?_|refine Z0 41 ?_|refine st ?_|(apply B<;>intro hb<;>try cases hb)))<;>try refine At.mk ?_
 refine Z7 hcb rfl rfl rfl ⟨hpp,trivial⟩ rfl ?_
 refine Z7 hce rfl rfl rfl ⟨Z1 _,trivial,trivial⟩ rfl ?_
 generalize (cubI rs nv gl).any emC=b2
 cases b2
 case true =>
  rw [if_pos (.inl rfl)]
  (refine go ?_;repeat' (apply B<;>intro hb<;>try cases hb))
  exact Z8 rfl trivial rfl
 (repeat'(first|refine Z2 47 ?_|refine Z0 47 ?_|refine st ?_|(apply B<;>intro hb<;>try cases hb)))<;>try refine At.mk ?_
 refine Zq rfl ?_
 refine Z7 har rfl rfl rfl ⟨Z3d rs,trivial,trivial⟩ rfl ?_
 generalize rs.all revB=b3
 cases b3
 · rw [if_pos (.inr rfl)]
   (refine go ?_;repeat' (apply B<;>intro hb<;>try cases hb))
   exact Z8 rfl trivial rfl
 rw [if_neg (by simp)]
 (repeat'(first|refine Z2 54 ?_|refine Z0 54 ?_|refine st ?_|(apply B<;>intro hb<;>try cases hb)))<;>try refine At.mk ?_
 refine Z7 hgo rfl rfl rfl ⟨hpp,Z3 _,trivial⟩ rfl ?_
 generalize soC nv (clo l s0)=b4
 cases b4
 · rw [if_neg (by decide)]
   (refine go ?_;repeat' (apply B<;>intro hb<;>try cases hb))
   exact Z8 rfl trivial rfl
 · rw [if_pos rfl]
   (refine go ?_;repeat' (apply B<;>intro hb<;>try cases hb))
   exact Z8 rfl trivial rfl
theorem Zg4 {t:PB} (h:PbOk t):Fine t.l t.st (t.rs.map toI) t.nv t.gl:=by
 have h1:=h.rl
 have h2:=h.nl
 have h3:=h.gk
 refine⟨Nat.le_trans (ZaS h.good) (by decide),?_,by rw [List.length_map]; omega,by omega,by omega,fun c hc=>?_⟩
 · have h1 : t.st ≤ mkN t.n := by rw [← h.st]; exact Nat.left_le_or
   have:=Z3F h.n.2
   omega
 · unfold cubI at hc
   rw [List.mem_append,List.mem_append,List.map_map,List.mem_map] at hc
   rcases hc with (⟨x,hx,rfl⟩|hc)|hc
   · exact (h.rs x hx).cu.lt h.n.2
   · exact h.nv64 c hc
   · exact h.gl64 c hc
theorem Zgy {n:Nat} {c:Cu} (h:InC n c):c.1 ||| c.2 ||| mkN n=mkN n:=by rw [Nat.or_assoc,h.n,h.y]
theorem ZaT {t:PB} (h:PbOk t):∀ c∈cubI (t.rs.map toI) t.nv t.gl,InC t.n c:=fun c hc=>by
 unfold cubI at hc
 rw [List.mem_append,List.mem_append,List.map_map,List.mem_map] at hc
 rcases hc with (⟨x,hx,rfl⟩|hc)|hc
 · exact (h.rs x hx).cu
 · exact (h.nv c hc).1
 · exact (h.gl c hc).1
theorem Zgz {t:PB} (h:PbOk t):chkI t.n t.l t.st (t.rs.map toI) t.nv t.gl=0:=by
 have hn:=h.n
 have h1:=h.rl
 have h2:=h.nl
 have h3:=h.gk
 unfold chkI
 rw [if_neg (by omega),if_neg (by rw [List.length_map];omega),Int.toNat_natCast]
 have hk:knB (mkN t.n) t.l t.st (t.rs.map toI) (cubI (t.rs.map toI) t.nv t.gl)=true:=by
  unfold knB
  rw [decide_eq_true h.st,Bool.true_and,Bool.and_eq_true,Bool.and_eq_true,List.all_eq_true,List.all_eq_true,List.all_eq_true]
  refine⟨fun p hp=>?_,fun x hx=>?_,fun c hc=>decide_eq_true (Zgy (ZaT h c hc))⟩
  · have ha := h.lk p hp
    have hb:=h.good.role p hp
    rw [Z2g,Z2g,decide_eq_true (show 1≤p.1 by omega),decide_eq_true ha.1,decide_eq_true (show 1≤p.2 by omega),decide_eq_true ha.2.1]; rfl
  · obtain ⟨r, hr, rfl⟩ := List.mem_map.1 hx
    have ht:=(h.rs r hr).tg
    show (decide (0≤(r.tg:Int))&&(mkN t.n).testBit (r.tg:Int).toNat)=true
    rw [Int.toNat_natCast,decide_eq_true (Int.natCast_nonneg _),Z2g,decide_eq_true ht.1,decide_eq_true ht.2.1]; rfl
 rw [hk,if_neg (by decide)]
 have he:(cubI (t.rs.map toI) t.nv t.gl).any emC=false:=Bool.eq_false_iff.2 fun h0=>by
  obtain⟨c,hc,h1⟩:=List.any_eq_true.1 h0
  rw [(ZaT h c hc).e] at h1; cases h1
 have hr:(t.rs.map toI).all revB=true:=by
  rw [List.all_eq_true]
  intro x hx
  obtain⟨r,hr,rfl⟩:=List.mem_map.1 hx
  unfold revB
  show (!r.rev||(decide (r.cu.1=0)&&decide (r.cu.2=0)))=true
  cases hv:r.rev with
  | false=>rfl
  | true=>rw [(h.rs r hr).rv hv]; rfl
 rw [he,hr,if_neg (by simp),h.sg,if_neg (by decide)]
theorem Z5i {t:PB} (h:PbOk t) (S:List Nat):Spec Tryz.prog 39 [.agg (pbP t S)] (· = .val (.int .i64 0)):=by
 have:=Z9P t.n t.l S t.st (t.rs.map toI) t.nv t.gl (Zg4 h)
 rwa [Zgz h,← ZgR] at this
noncomputable def expAll (t:PB) (l:List Cu):List Cu:=l.flatMap (exL t.l t.n)
def splAll (bad l:List Cu):List Cu:=l.flatMap (splL bad)
theorem Z4s {α:Type} {f:α→List Cu} {k:Nat}:∀ {l:List α},(∀ x∈l,(f x).length≤k)→(l.flatMap f).length≤k*l.length
 | [],_=>by simp
 | x :: l, h => by
   rw [List.flatMap_cons,List.length_append,List.length_cons,Nat.mul_succ]
   have h1:=h x (List.mem_cons_self ..)
   have h2:=Z4s (l:=l) fun y hy=>h y (List.mem_cons_of_mem _ hy)
   omega
theorem Z4J {t:PB} (h:PbOk t) (l:List Cu) (hl:∀ c∈l,InC t.n c∧InM 62 c):(expAll t l).length≤64*l.length:=Z4s fun c hc=>(Z6S h (hl c hc).2).2.2.1
theorem Z9Q {l:List Cu} {c:Cu} (hl:∀ b∈l,InM 62 b) (hc:InM 62 c):Dis (splL l c)∧(∀ c'∈splL l c,InM 62 c')∧(splL l c).length≤64:=by
 have h1:=Zdx (m:=62) (by decide) hl hc l.length
 have he:splT l c l.length=splL l c:=by unfold splT splL; rw [List.take_length]
 rw [he] at h1
 exact⟨h1.1,h1.2,Z9B h1.1 h1.2 (by decide)⟩
theorem Z4K {bad:List Cu} (hb:∀ b∈bad,InM 62 b) (l:List Cu) (hl:∀ c∈l,InM 62 c):(splAll bad l).length≤64*l.length:=Z4s fun c hc=>(Z9Q hb (hl c hc)).2.2
set_option maxHeartbeats 2000000 in
theorem Z4W {t:PB} (h:PbOk t) (S:List Nat) (l:List Cu) (fl:Bool) (hl:∀ c∈l,InC t.n c∧InM 62 c) (hlen:l.length≤10000):Spec Tryz.prog 48 [.agg (pbP t S),.vec (l.map cuC) fl] (· = .tup [.vec ((expAll t l).map cuC) false,.val (.int .i64 0)]):=by
 have hnl:(l.map cuC).length=l.length:=by simp
 have hpp:=Z17 t S
 refine Z4 ok48 (Nat.le_of_ble_eq_true rfl) fun C hC=>?_
 refine Zk ?_
 refine Zb ?_
 refine Z6 rfl rfl rfl ?_
 repeat' (first|refine Zd (ZG (k:=6) rfl 2 (by decide)) ?_|(first|refine st ?_|(apply B<;>intro hb<;>try cases hb)))
 refine ZJ hC (fun (i:Nat)=>i≤l.length) (fun i=>l.length-i) 1 (fun i => [(2,.cp (pbP t S)),(6,.own 0),(11,.vec (l.map cuC) fl),(12,.val (.int .i64 (l.length:Int))),(13,.val (.int .i64 (i:Int)))])
  (fun i => [(0,⟨2,(expAll t (l.take i)).map cuC⟩)]) (Nat.zero_le _) 0 (Nat.zero_le _) (fun i=>i) (fun _ _=>rfl) Zo
  ⟨⟨_,rfl,.pure _ hpp⟩,⟨_,rfl,.own 0 (by decide)⟩,⟨_,rfl,.pure _ (Z1 _)⟩,⟨_,by rw [← hnl]; rfl,.pure _ trivial⟩,⟨_,rfl,.pure _ trivial⟩,trivial⟩ ⟨⟨by decide,_,rfl,.same _ trivial⟩,trivial⟩ ?_
 intro i hi
 have hinc:IntKind.i64.wrap ((i:Int)+1)=((i+1:Nat):Int):=IntWalk.i64_in _ ⟨by omega,by omega⟩
 iterate 2 (first|refine st ?_|(apply B<;>intro hb<;>try cases hb))
 refine Zl rfl rfl rfl (fun hb=>?_) (fun hb=>?_)
 · have hil : i < l.length := by have := of_decide_eq_true hb; omega
   have htake:=ZV hil
   clear hb
   have hci:=hl _ (List.getElem_mem hil)
   have hacc:=Z4J h (l.take i) (fun c hc=>hl c (List.mem_of_mem_take hc))
   rw [List.length_take] at hacc
   (refine go ?_;repeat' (apply B<;>intro hb<;>try cases hb))
   refine Z5 (Zn (xs:=l) (g:=cuC) rfl rfl i rfl hil rfl) rfl rfl ?_
   generalize l[i]=x at htake hci ⊢
   have hone:=(Z6S h hci.2).2.2.1
   have hsn:expAll t (l.take (i+1))=expAll t (l.take i)++exL t.l t.n x:=by rw [htake]; unfold expAll; rw [List.flatMap_append]; simp
   generalize expAll t (l.take i)=acc at hacc hsn ⊢
   (repeat'(first|refine Z2 20 ?_|refine Z0 20 ?_|refine st ?_|(apply B<;>intro hb<;>try cases hb)))<;>try refine At.mk ?_
   refine Z7 (Z4o h S x hci.1 hci.2) rfl rfl rfl ⟨hpp,Zp _,trivial⟩ rfl ?_
   (repeat'(first|refine Z2 28 ?_|refine Z0 28 ?_|refine st ?_|(apply B<;>intro hb<;>try cases hb)))<;>try refine At.mk ?_
   refine ZE (Zu (k:=0) (m:=(exL t.l t.n x).map cuC) (fl:=false) rfl rfl rfl (fun c hc=>by obtain⟨y,_,rfl⟩:=List.mem_map.1 hc; rfl) rfl (by
    show ((acc.map cuC).length+((exL t.l t.n x).map cuC).length)*48≤_
    rw [List.length_map,List.length_map]
    omega)) rfl rfl ?_
   (refine go ?_;repeat' (apply B<;>intro hb<;>try cases hb))
   refine⟨i+1,mv 0 2,by omega,by omega,fun i hi=>absurd hi (Nat.not_lt_zero i),ZA rfl,
    ⟨⟨_,rfl,.pure _ hpp⟩,⟨_,rfl,.own 0 (by decide)⟩,⟨_,rfl,.pure _ (Z1 _)⟩,⟨_,rfl,.pure _ trivial⟩,⟨_,by show some _=some _; rw [hinc],.pure _ trivial⟩,trivial⟩,
    ⟨⟨by decide,_,rfl,?_⟩,trivial⟩⟩
   show RenB _ _ ⟨2,acc.map cuC++(exL t.l t.n x).map cuC⟩ ⟨2,(expAll t (l.take (i+1))).map cuC⟩
   rw [hsn,List.map_append]
   exact .same _ (by rw [← List.map_append]; exact Z1 _)
 · have hil : i = l.length := by have := of_decide_eq_false hb; omega
   subst hil
   clear hb
   rw [List.take_length]
   repeat' (first|refine Zd (Zr (k:=6) rfl rfl (Z1 _)) ?_|(first|refine st ?_|(apply B<;>intro hb<;>try cases hb)))
   exact Z8 rfl ⟨Z1 _,trivial,trivial⟩ rfl
set_option maxHeartbeats 2000000 in
theorem Z63 (bad l:List Cu) (f2 fl:Bool) (hb0:∀ b∈bad,InM 62 b) (hbl:bad.length≤100000) (hl:∀ c∈l,InM 62 c) (hlen:l.length≤10000):Spec Tryz.prog 56 [.vec (l.map cuC) fl,.vec (bad.map cuC) f2] (· = .tup [.vec ((splAll bad l).map cuC) false,.val (.int .i64 0)]):=by
 have hnl:(l.map cuC).length=l.length:=by simp
 refine Z4 ok56 (Nat.le_of_ble_eq_true rfl) fun C hC=>?_
 repeat' (first|refine Zd (ZG (k:=6) rfl 2 (by decide)) ?_|(first|refine st ?_|(apply B<;>intro hb<;>try cases hb)))
 refine ZJ hC (fun (i:Nat)=>i≤l.length) (fun i=>l.length-i) 1 (fun i => [(1,.vec (bad.map cuC) f2),(6,.own 0),(11,.vec (l.map cuC) fl),(12,.val (.int .i64 (l.length:Int))),(13,.val (.int .i64 (i:Int)))])
  (fun i => [(0,⟨2,(splAll bad (l.take i)).map cuC⟩)]) (Nat.zero_le _) 0 (Nat.zero_le _) (fun i=>i) (fun _ _=>rfl) Zo
  ⟨⟨_,rfl,.pure _ (Z1 _)⟩,⟨_,rfl,.own 0 (by decide)⟩,⟨_,rfl,.pure _ (Z1 _)⟩,⟨_,by rw [← hnl]; rfl,.pure _ trivial⟩,⟨_,rfl,.pure _ trivial⟩,trivial⟩ ⟨⟨by decide,_,rfl,.same _ trivial⟩,trivial⟩ ?_
 intro i hi
 have hinc:IntKind.i64.wrap ((i:Int)+1)=((i+1:Nat):Int):=IntWalk.i64_in _ ⟨by omega,by omega⟩
 iterate 2 (first|refine st ?_|(apply B<;>intro hb<;>try cases hb))
 refine Zl rfl rfl rfl (fun hb=>?_) (fun hb=>?_)
 · have hil : i < l.length := by have := of_decide_eq_true hb; omega
   have htake:=ZV hil
   clear hb
   have hci:=hl _ (List.getElem_mem hil)
   have hacc:=Z4K hb0 (l.take i) (fun c hc=>hl c (List.mem_of_mem_take hc))
   rw [List.length_take] at hacc
   (refine go ?_;repeat' (apply B<;>intro hb<;>try cases hb))
   refine Z5 (Zn (xs:=l) (g:=cuC) rfl rfl i rfl hil rfl) rfl rfl ?_
   generalize l[i]=x at htake hci ⊢
   have hone:=(Z9Q hb0 hci).2.2
   have hsn:splAll bad (l.take (i+1))=splAll bad (l.take i)++splL bad x:=by rw [htake]; unfold splAll; rw [List.flatMap_append]; simp
   generalize splAll bad (l.take i)=acc at hacc hsn ⊢
   (repeat'(first|refine Z2 20 ?_|refine Z0 20 ?_|refine st ?_|(apply B<;>intro hb<;>try cases hb)))<;>try refine At.mk ?_
   refine Z7 (ZbQ bad f2 x 62 (by decide) hb0 hci hbl) rfl rfl rfl ⟨Zp _,Z1 _,trivial⟩ rfl ?_
   (repeat'(first|refine Z2 28 ?_|refine Z0 28 ?_|refine st ?_|(apply B<;>intro hb<;>try cases hb)))<;>try refine At.mk ?_
   refine ZE (Zu (k:=0) (m:=(splL bad x).map cuC) (fl:=false) rfl rfl rfl (fun c hc=>by obtain⟨y,_,rfl⟩:=List.mem_map.1 hc; rfl) rfl (by
    show ((acc.map cuC).length+((splL bad x).map cuC).length)*48≤_
    rw [List.length_map,List.length_map]
    omega)) rfl rfl ?_
   (refine go ?_;repeat' (apply B<;>intro hb<;>try cases hb))
   refine⟨i+1,mv 0 2,by omega,by omega,fun i hi=>absurd hi (Nat.not_lt_zero i),ZA rfl,
    ⟨⟨_,rfl,.pure _ (Z1 _)⟩,⟨_,rfl,.own 0 (by decide)⟩,⟨_,rfl,.pure _ (Z1 _)⟩,⟨_,rfl,.pure _ trivial⟩,⟨_,by show some _=some _; rw [hinc],.pure _ trivial⟩,trivial⟩,
    ⟨⟨by decide,_,rfl,?_⟩,trivial⟩⟩
   show RenB _ _ ⟨2,acc.map cuC++(splL bad x).map cuC⟩ ⟨2,(splAll bad (l.take (i+1))).map cuC⟩
   rw [hsn,List.map_append]
   exact .same _ (by rw [← List.map_append]; exact Z1 _)
 · have hil : i = l.length := by have := of_decide_eq_false hb; omega
   subst hil
   clear hb
   rw [List.take_length]
   repeat' (first|refine Zd (Zr (k:=6) rfl rfl (Z1 _)) ?_|(first|refine st ?_|(apply B<;>intro hb<;>try cases hb)))
   exact Z8 rfl ⟨Z1 _,trivial,trivial⟩ rfl
theorem even62 {a:Nat} (h:a ||| 62=62):a % 2=0∧a≤62:=by
 have h1:a≤62:=by rw [← h]; exact Nat.left_le_or
 refine⟨?_,h1⟩
 have h2:a.testBit 0=false:=Bool.eq_false_iff.2 fun h0=>by
  have:=orSub.1 h 0 h0
  cases this
 rw [Nat.testBit_zero] at h2
 have:=Nat.mod_lt a (show 0<2 by decide)
 have h3:¬ a % 2=1:=of_decide_eq_false h2
 omega
theorem ZeX {l:List Cu} (hn:l.Nodup) (hl:∀ c∈l,InM 62 c):l.length≤1024:=by
 have hnd:(l.map fun c=>c.1 / 2*32+c.2 / 2).Nodup:=by
  rw [List.nodup_iff_pairwise_ne,List.pairwise_map]
  refine List.Pairwise.imp_of_mem (fun {a b} ha hb hab e=>hab ?_) (List.nodup_iff_pairwise_ne.1 hn)
  have a1:=even62 (hl a ha).1
  have a2:=even62 (hl a ha).2
  have b1:=even62 (hl b hb).1
  have b2:=even62 (hl b hb).2
  exact Prod.ext (by omega) (by omega)
 have:=Z23 1024 _ hnd fun x hx=>by
  obtain⟨c,hc,rfl⟩:=List.mem_map.1 hx
  have a1:=even62 (hl c hc).1
  have a2:=even62 (hl c hc).2
  show c.1 / 2*32+c.2 / 2<1024
  omega
 rwa [List.length_map] at this
theorem Z2R {l:List Cu} (hl:∀ c∈l,InM 62 c):∀ c∈l,Ok64 c:=fun c hc=>(hl c hc).lt (by decide)
theorem sim62 {l:List Cu} (hl:∀ c∈l,InM 62 c):(∀ c∈simL l,InM 62 c)∧(simL l).length≤1024:=by
 have h1:∀ c∈simL l,InM 62 c:=fun c hc=>hl c (Z1J hc).1
 exact⟨h1,ZeX (Z3v (Z2R hl)) h1⟩
theorem Z3e (l:List Cu) (fl:Bool) (hl:∀ c∈l,InM 62 c) (hlen:l.length≤1000000):Spec Tryz.prog 49 [.vec (l.map cuC) fl] (· = .tup [.vec ((simL l).map cuC) false,.val (.int .i64 0)]):=by
 have h1:=(sim62 hl).2
 refine Z4 ok49 (Nat.le_of_ble_eq_true rfl) fun C hC=>?_
 (repeat'(first|refine Z2 5 ?_|refine Z0 5 ?_|refine st ?_|(apply B<;>intro hb<;>try cases hb)))<;>try refine At.mk ?_
 refine Z7 (Z5V l fl (Z2R hl) hlen) rfl rfl rfl ⟨Z1 _,trivial⟩ rfl ?_
 (repeat'(first|refine Z2 8 ?_|refine Z0 8 ?_|refine st ?_|(apply B<;>intro hb<;>try cases hb)))<;>try refine At.mk ?_
 refine Z5 (Za (v:=false) rfl (by simp;omega)) rfl rfl ?_
 (refine go ?_;repeat' (apply B<;>intro hb<;>try cases hb))
 exact Z8 rfl ⟨Z1 _,trivial,trivial⟩ rfl
noncomputable def badL (t:PB):List Cu:=simL (expAll t t.nv)
noncomputable def tgtL (t:PB):List Cu:=simL (splAll (badL t) (expAll t t.gl))
theorem Z1Y {t:PB} (h:PbOk t) {l:List Cu} (hl:∀ c∈l,InC t.n c∧InM 62 c):∀ c∈expAll t l,InM 62 c:=fun c hc=>by
 obtain⟨x,hx,hc⟩:=List.mem_flatMap.1 hc
 exact (Z6S h (hl x hx).2).2.2.2 c hc
theorem Z2A {bad l:List Cu} (hb:∀ b∈bad,InM 62 b) (hl:∀ c∈l,InM 62 c):∀ c∈splAll bad l,InM 62 c:=fun c hc=>by
 obtain⟨x,hx,hc⟩:=List.mem_flatMap.1 hc
 exact (Z9Q hb (hl x hx)).2.1 c hc
theorem Z64 {t:PB} (h:PbOk t):(∀ c∈badL t,InM 62 c)∧(badL t).length≤1024:=sim62 (Z1Y h h.nv)
theorem ZgA {t:PB} (h:PbOk t):(∀ c∈tgtL t,InM 62 c)∧(tgtL t).length≤1024:=sim62 (Z2A (Z64 h).1 (Z1Y h h.gl))
theorem Z7H {α:Type} (f:α→List Cu) (l:List α) (S:Nat):soC (l.flatMap f) S=l.any fun x=>soC (f x) S:=by unfold soC; exact List.any_flatMap
theorem Z8u {t:PB} (h:PbOk t) {l:List Cu} (hl:∀ c∈l,InC t.n c∧InM 62 c) {S:Nat} (hS:InS t S):soC (expAll t l) S=soC l (clo t.l S):=by
 unfold expAll
 rw [Z7H]
 unfold soC
 rw [Bool.eq_iff_iff,List.any_eq_true,List.any_eq_true]
 exact exists_congr fun c=>and_congr_right fun hc=>by rw [← Zfr h.good.small h.n.2 (hl c hc).1 hS]; rfl
theorem Z8v {bad:List Cu} (hb:∀ b∈bad,InM 62 b) (l:List Cu) (S:Nat):soC (splAll bad l) S=(soC l S && !soC bad S):=by
 unfold splAll
 rw [Z7H]
 induction l with
 | nil=>rfl
 | cons c l ih =>
   rw [List.any_cons,ih,Zg1 (Z2R hb),Z2N]
   cases hoC c S<;>cases soC bad S<;>cases soC l S<;>rfl
theorem ZdC {t:PB} (h:PbOk t) {S:Nat} (hS:InS t S):soC (badL t) S = !goodB t S:=by
 unfold badL goodB
 rw [Z5W (Z2R (Z1Y h h.nv)),Z8u h h.nv hS,Bool.not_not]
theorem ZgB {t:PB} (h:PbOk t) {S:Nat} (hS:InS t S):soC (tgtL t) S=(goodB t S&&reachB t S):=by
 unfold tgtL
 rw [Z5W (Z2R (Z2A (Z64 h).1 (Z1Y h h.gl))),Z8v (Z64 h).1,Z8u h h.gl hS,ZdC h hS,Bool.not_not,Bool.and_comm]
 rfl
theorem ZaU {t:PB} (h:PbOk t) (S:List Nat):Spec Tryz.prog 15 [.agg (pbP t S)] (· = .tup [.vec ((badL t).map cuC) false,.val (.int .i64 0)]):=by
 have hpp:=Z17 t S
 have hl:=Z4J h t.nv h.nv
 have hnl:=h.nl
 refine Z4 ok15 (Nat.le_of_ble_eq_true rfl) fun C hC=>?_
 refine Zk ?_
 refine Zb ?_
 refine Z6 rfl rfl rfl ?_
 (repeat'(first|refine Z2 8 ?_|refine Z0 8 ?_|refine st ?_|(apply B<;>intro hb<;>try cases hb)))<;>try refine At.mk ?_
 refine Z7 (Z5i h S) rfl rfl rfl ⟨hpp,trivial⟩ rfl ?_
 (repeat'(first|refine Z2 16 ?_|refine Z0 16 ?_|refine st ?_|(apply B<;>intro hb<;>try cases hb)))<;>try refine At.mk ?_
 refine Z7 (Z4W h S t.nv false h.nv (by omega)) rfl rfl rfl ⟨hpp,Z1 _,trivial⟩ rfl ?_
 (repeat'(first|refine Z2 23 ?_|refine Z0 23 ?_|refine st ?_|(apply B<;>intro hb<;>try cases hb)))<;>try refine At.mk ?_
 refine Z7 (Z3e (expAll t t.nv) false (Z1Y h h.nv) (by omega)) rfl rfl rfl ⟨Z1 _,trivial⟩ rfl ?_
 (refine go ?_;repeat' (apply B<;>intro hb<;>try cases hb))
 exact Z8 rfl ⟨Z1 _,trivial,trivial⟩ rfl
theorem Z4X {t:PB} (h:PbOk t) (S:List Nat):Spec Tryz.prog 20 [.agg (pbP t S)] (· = .tup [.vec ((tgtL t).map cuC) false,.val (.int .i64 0)]):=by
 have hpp:=Z17 t S
 have hl:=Z4J h t.gl h.gl
 have hnl:=h.gk
 have hbi:=Z64 h
 have hl2:=Z4K hbi.1 (expAll t t.gl) (Z1Y h h.gl)
 refine Z4 ok20 (Nat.le_of_ble_eq_true rfl) fun C hC=>?_
 refine Zk ?_
 refine Zb ?_
 refine Z6 rfl rfl rfl ?_
 (repeat'(first|refine Z2 9 ?_|refine Z0 9 ?_|refine st ?_|(apply B<;>intro hb<;>try cases hb)))<;>try refine At.mk ?_
 refine Z7 (ZaU h S) rfl rfl rfl ⟨hpp,trivial⟩ rfl ?_
 (repeat'(first|refine Z2 19 ?_|refine Z0 19 ?_|refine st ?_|(apply B<;>intro hb<;>try cases hb)))<;>try refine At.mk ?_
 refine Z7 (Z4W h S t.gl false h.gl (by omega)) rfl rfl rfl ⟨hpp,Z1 _,trivial⟩ rfl ?_
 (repeat'(first|refine Z2 28 ?_|refine Z0 28 ?_|refine st ?_|(apply B<;>intro hb<;>try cases hb)))<;>try refine At.mk ?_
 refine Z7 (Z63 (badL t) (expAll t t.gl) false false hbi.1 (by omega) (Z1Y h h.gl) (by omega)) rfl rfl rfl ⟨Z1 _,Z1 _,trivial⟩ rfl ?_
 (repeat'(first|refine Z2 35 ?_|refine Z0 35 ?_|refine st ?_|(apply B<;>intro hb<;>try cases hb)))<;>try refine At.mk ?_
 refine Z7 (Z3e (splAll (badL t) (expAll t t.gl)) false (Z2A hbi.1 (Z1Y h h.gl)) (by omega)) rfl rfl rfl ⟨Z1 _,trivial⟩ rfl ?_
 (refine go ?_;repeat' (apply B<;>intro hb<;>try cases hb))
 exact Z8 rfl ⟨Z1 _,trivial,trivial⟩ rfl
theorem Z2S {N:Nat} (hN:N<18446744073709551616) {i:Nat} (hi:i<64):withoutN N (i:Int)=minusN N (2 ^ i):=by
 refine Nat.eq_of_testBit_eq fun j=>?_
 rw [Z2V hN,Zz hN (ZL hi),Nat.testBit_two_pow]
 by_cases h:j=i
 · subst h; simp
 · rw [decide_eq_true h,decide_eq_false fun h'=>h h'.symm]; rfl
set_option maxHeartbeats 1000000 in
theorem Z4Y (c:Cu) (hc:Ok64 c) (tg:Nat) (ht:tg<64) (rev:Bool):Spec Tryz.prog 109 [cuP c,.val (.int .i64 (tg:Int)),.val (.bool rev)] (· = .tup [cuP (befC c tg rev),.val (.bool (befB c tg rev))]):=by
 have hw1:=Z1F c.1 hc.1 (tg:Int)
 have hw2:=Z1F c.2 hc.2 (tg:Int)
 rw [Z2S hc.1 ht] at hw1
 rw [Z2S hc.2 ht] at hw2
 have hh1:=Z1d c.1 hc.1 tg
 have hh2:=Z1d c.2 hc.2 tg
 refine Z4 ok109 (Nat.le_of_ble_eq_true rfl) fun C hC=>?_
 refine Zk ?_
 refine Zb ?_
 refine Z6 rfl rfl rfl ?_
 cases rev
 · (repeat'(first|refine Z2 24 ?_|refine Z0 24 ?_|refine st ?_|(apply B<;>intro hb<;>try cases hb)))<;>try refine At.mk ?_
   refine Zx hw1 rfl rfl rfl ⟨Z3 _,trivial,trivial⟩ ?_
   (repeat'(first|refine Z2 31 ?_|refine Z0 31 ?_|refine st ?_|(apply B<;>intro hb<;>try cases hb)))<;>try refine At.mk ?_
   refine Zx hh2 rfl rfl rfl ⟨Z3 _,trivial,trivial⟩ ?_
   unfold befB
   rw [if_neg (by decide)]
   generalize c.2.testBit tg=b
   cases b
   all_goals
    (refine go ?_;repeat' (apply B<;>intro hb<;>try cases hb))
    exact Z8 (r:=.tup [cuP (befC c tg false),.val (.bool _)]) rfl ⟨Zp _,trivial,trivial⟩ rfl
 · (repeat'(first|refine Z2 14 ?_|refine Z0 14 ?_|refine st ?_|(apply B<;>intro hb<;>try cases hb)))<;>try refine At.mk ?_
   refine Zx hw2 rfl rfl rfl ⟨Z3 _,trivial,trivial⟩ ?_
   (repeat'(first|refine Z2 19 ?_|refine Z0 19 ?_|refine st ?_|(apply B<;>intro hb<;>try cases hb)))<;>try refine At.mk ?_
   refine Zx hh1 rfl rfl rfl ⟨Z3 _,trivial,trivial⟩ ?_
   unfold befB
   rw [if_pos rfl]
   generalize c.1.testBit tg=b
   cases b
   all_goals
    (refine go ?_;repeat' (apply B<;>intro hb<;>try cases hb))
    exact Z8 (r:=.tup [cuP (befC c tg true),.val (.bool _)]) rfl ⟨Zp _,trivial,trivial⟩ rfl
def befO (tg:Nat) (rev:Bool) (b:Cu):List Cu:=if befB b tg rev then [befC b tg rev] else []
def aftT (bad:List Cu) (tg:Nat) (rev:Bool) (i:Nat):List Cu:=bad++(bad.take i).flatMap (befO tg rev)
theorem ZdD (bad:List Cu) (tg:Nat) (rev:Bool) {i:Nat} (hi:i<bad.length):aftT bad tg rev (i+1)=aftT bad tg rev i++befO tg rev bad[i]:=by
 unfold aftT
 rw [ZV hi,List.flatMap_append,← List.append_assoc]
 simp
theorem ZeY (tg:Nat) (rev:Bool) (b:Cu):(befO tg rev b).length≤1:=by unfold befO; split<;>simp
theorem ZaV (bad:List Cu) (tg:Nat) (rev:Bool) (i:Nat):(aftT bad tg rev i).length≤2*bad.length:=by
 unfold aftT
 rw [List.length_append]
 have:=Z4s (l:=bad.take i) (f:=befO tg rev) (k:=1) fun x _=>ZeY tg rev x
 rw [List.length_take] at this
 omega
noncomputable def aftL (t:PB) (r:RU):List Cu:=aftT (badL t) r.tg r.rev (badL t).length
noncomputable def ifR (t:PB) (r:RU):List PV := [.vec ((exL t.l t.n r.cu).map cuC) false]
noncomputable def afR (t:PB) (r:RU):List PV := [.vec ((aftL t r).map cuC) false]
theorem Z3x (t:PB) (r:RU):pureL (ifR t r):=⟨Z1 _,trivial⟩
theorem Z3y (t:PB) (r:RU):pureL (afR t r):=⟨Z1 _,trivial⟩
noncomputable def srC (t:PB) (S:List Nat):List PV := [.val (.int .i64 (t.n:Int)),hierP t.l S,.vec (words (digs t.st)) false,.vec (t.rs.map ruP) false,.vec (t.nv.map cuC) false,.vec (t.gl.map cuC) false,.vec ((badL t).map cuC) false,.vec (t.rs.map (ifR t)) false,.vec (t.rs.map (afR t)) false]
theorem Z3z (t:PB) (S:List Nat):pureL (srC t S):=⟨trivial,Zw _ _,Zc _,ZX _,Z1 _,Z1 _,Z1 _,Zg (Z3x t) _,Zg (Z3y t) _,trivial⟩
set_option maxRecDepth 100000 in
set_option maxHeartbeats 8000000 in
theorem Z4Z {t:PB} (h:PbOk t) (S:List Nat):Spec Tryz.prog 67 [.agg (pbP t S)] (· = .tup [.cp (srC t S),.val (.int .i64 0)]):=by
 have hpp:=Z17 t S
 have hbi:=Z64 h
 have hrl:=h.rl
 have hnr:(t.rs.map ruP).length=t.rs.length:=by simp
 have hnb:((badL t).map cuC).length=(badL t).length:=by simp
 refine Z4 ok67 (Nat.le_of_ble_eq_true rfl) fun C hC=>?_
 refine Zk ?_
 refine Zb ?_
 refine Z6 rfl rfl rfl ?_
 (repeat'(first|refine Z2 18 ?_|refine Z0 18 ?_|refine st ?_|(apply B<;>intro hb<;>try cases hb)))<;>try refine At.mk ?_
 refine Z7 (ZaU h S) rfl rfl rfl ⟨hpp,trivial⟩ rfl ?_
 (repeat'(first|refine Z2 28 ?_|refine Z0 28 ?_|refine st ?_|(apply B<;>intro hb<;>try cases hb)))<;>try refine At.mk ?_
 refine Zd (ZO (id:=0) (i0:=0) (j0:=7) rfl (Nat.le_of_ble_eq_true rfl) (Nat.le_of_ble_eq_true rfl) rfl 1 (by decide) (by decide)) ?_
 refine Zd (ZO (id:=0) (i0:=0) (j0:=8) rfl (Nat.le_of_ble_eq_true rfl) (Nat.le_of_ble_eq_true rfl) rfl 1 (by decide) (by decide)) ?_
 (refine go ?_;repeat' (apply B<;>intro hb<;>try cases hb))
 refine ZJ hC (fun (i:Nat)=>i≤t.rs.length) (fun i=>t.rs.length-i) 3 (fun i => [(1,.cp (pbP t S)),(4,.vec ((badL t).map cuC) false),(6,.ptr 0 0 0),(29,.vec (t.rs.map ruP) false),(30,.val (.int .i64 (t.rs.length:Int))),(31,.val (.int .i64 (i:Int)))])
  (fun i => [(0,⟨9,[[.val (.int .i64 (t.n:Int)),hierP t.l S,.vec (words (digs t.st)) false,.vec (t.rs.map ruP) false,.vec (t.nv.map cuC) false,.vec (t.gl.map cuC) false,.vec ((badL t).map cuC) false,.own 1,.own 2]]⟩),(1,⟨1,(t.rs.take i).map (ifR t)⟩),(2,⟨1,(t.rs.take i).map (afR t)⟩)]) (Nat.zero_le _) 0 (Nat.zero_le _) (fun i=>i) (fun _ _=>rfl) Zo
  ⟨⟨_,rfl,.pure _ hpp⟩,⟨_,rfl,.pure _ (Z1 _)⟩,⟨_,rfl,.ptr (ρ:=fun i=>i) 0 0 0 (by decide)⟩,⟨_,rfl,.pure _ (ZX _)⟩,⟨_,by rw [← hnr]; rfl,.pure _ trivial⟩,⟨_,rfl,.pure _ trivial⟩,trivial⟩
  ⟨⟨by decide,_,rfl,RenB.single ⟨.pure _ trivial,.pure _ (Zw _ _),.pure _ (Zc _),.pure _ (ZX _),.pure _ (Z1 _),.pure _ (Z1 _),.pure _ (Z1 _),.own (ρ:=fun i=>i) 1 (by decide),.own (ρ:=fun i=>i) 2 (by decide),trivial⟩ rfl⟩,⟨by decide,_,rfl,.same _ trivial⟩,⟨by decide,_,rfl,.same _ trivial⟩,trivial⟩ ?_
 intro i hi
 have hinc:IntKind.i64.wrap ((i:Int)+1)=((i+1:Nat):Int):=IntWalk.i64_in _ ⟨by omega,by omega⟩
 (repeat'(first|refine Z2 32 ?_|refine Z0 32 ?_|refine st ?_|(apply B<;>intro hb<;>try cases hb)))<;>try refine At.mk ?_
 by_cases hil:i<t.rs.length
 · have htk := ZV hil
   have hro:=h.rs _ (List.getElem_mem hil)
   have htl:(t.rs.take i).length≤64:=by rw [List.length_take]; omega
   refine Z5 (Za (v:=true) rfl (decide_eq_true (Int.ofNat_lt.2 hil))) rfl rfl ?_
   (refine go ?_;repeat' (apply B<;>intro hb<;>try cases hb))
   refine Z5 (Zn (xs:=t.rs) (g:=ruP) rfl rfl i rfl hil rfl) rfl rfl ?_
   generalize t.rs[i]=x at htk hro ⊢
   have hxt:=hro.tg
   generalize t.rs.take i=tk at htk htl ⊢
   (repeat'(first|refine Z2 39 ?_|refine Z0 39 ?_|refine st ?_|(apply B<;>intro hb<;>try cases hb)))<;>try refine At.mk ?_
   refine Z7 (Z4o h S x.cu hro.cu hro.m) rfl rfl rfl ⟨hpp,Zp _,trivial⟩ rfl ?_
   (repeat'(first|refine Z2 45 ?_|refine Z0 45 ?_|refine st ?_|(apply B<;>intro hb<;>try cases hb)))<;>try refine At.mk ?_
   refine Z3H rfl rfl rfl ?_
   iterate 1 (first|refine st ?_|(apply B<;>intro hb<;>try cases hb))
   refine ZE (Zu (k:=4) (m:=(badL t).map cuC) (fl:=false) rfl rfl rfl (fun q hq=>by obtain⟨y,_,rfl⟩:=List.mem_map.1 hq; rfl) rfl (by
    show (0+((badL t).map cuC).length)*48≤_
    rw [List.length_map];omega)) rfl rfl ?_
   (refine go ?_;repeat' (apply B<;>intro hb<;>try cases hb))
   refine ZJ hC (fun (j:Nat)=>j≤(badL t).length) (fun j=>(badL t).length-j) 6 (fun j => [(1,.cp (pbP t S)),(4,.vec ((badL t).map cuC) false),(6,.ptr 0 0 0),(8,.ptr 3 0 0),(9,.vec ((exL t.l t.n x.cu).map cuC) false),(11,.own 5),(29,.vec (t.rs.map ruP) false),(30,.val (.int .i64 (t.rs.length:Int))),(31,.val (.int .i64 (i:Int))),(48,.vec ((badL t).map cuC) false),(49,.val (.int .i64 ((badL t).length:Int))),(50,.val (.int .i64 (j:Int)))])
    (fun j => [(0,⟨9,[[.val (.int .i64 (t.n:Int)),hierP t.l S,.vec (words (digs t.st)) false,.vec (t.rs.map ruP) false,.vec (t.nv.map cuC) false,.vec (t.gl.map cuC) false,.vec ((badL t).map cuC) false,.own 1,.own 2]]⟩),(1,⟨1,tk.map (ifR t)⟩),(2,⟨1,tk.map (afR t)⟩),(3,⟨5,[ruP x]⟩),(5,⟨2,(aftT (badL t) x.tg x.rev j).map cuC⟩)]) (Nat.zero_le _) 0 (Nat.zero_le _) (fun i=>i) (fun _ _=>rfl) Zo
    ⟨⟨_,rfl,.pure _ hpp⟩,⟨_,rfl,.pure _ (Z1 _)⟩,⟨_,rfl,.ptr (ρ:=fun i=>i) 0 0 0 (by decide)⟩,⟨_,rfl,.ptr (ρ:=fun i=>i) 3 0 0 (by decide)⟩,⟨_,rfl,.pure _ (Z1 _)⟩,⟨_,rfl,.own (ρ:=fun i=>i) 5 (by decide)⟩,⟨_,rfl,.pure _ (ZX _)⟩,⟨_,rfl,.pure _ trivial⟩,⟨_,rfl,.pure _ trivial⟩,⟨_,rfl,.pure _ (Z1 _)⟩,⟨_,by rw [← hnb]; rfl,.pure _ trivial⟩,⟨_,rfl,.pure _ trivial⟩,trivial⟩
    ⟨⟨by decide,_,rfl,RenB.single ⟨.pure _ trivial,.pure _ (Zw _ _),.pure _ (Zc _),.pure _ (ZX _),.pure _ (Z1 _),.pure _ (Z1 _),.pure _ (Z1 _),.own (ρ:=fun i=>i) 1 (by decide),.own (ρ:=fun i=>i) 2 (by decide),trivial⟩ rfl⟩,⟨by decide,_,rfl,.same _ (Zg (Z3x t) _)⟩,⟨by decide,_,rfl,.same _ (Zg (Z3y t) _)⟩,⟨by decide,_,rfl,.same _ ⟨Z5h x,trivial⟩⟩,⟨by decide,_,rfl,by unfold aftT; rw [List.take_zero,List.flatMap_nil,List.append_nil]; exact .same _ (Z1 _)⟩,trivial⟩ ?_
   intro j hj
   have hjnc:IntKind.i64.wrap ((j:Int)+1)=((j+1:Nat):Int):=IntWalk.i64_in _ ⟨by omega,by omega⟩
   have hal:=ZaV (badL t) x.tg x.rev j
   (repeat'(first|refine Z2 51 ?_|refine Z0 51 ?_|refine st ?_|(apply B<;>intro hb<;>try cases hb)))<;>try refine At.mk ?_
   by_cases hjl:j<(badL t).length
   · have hsn := ZdD (badL t) x.tg x.rev hjl
     have hb64:=Z2R hbi.1 _ (List.getElem_mem hjl)
     refine Z5 (Za (v:=true) rfl (decide_eq_true (Int.ofNat_lt.2 hjl))) rfl rfl ?_
     (refine go ?_;repeat' (apply B<;>intro hb<;>try cases hb))
     refine Z5 (Zn (xs:=badL t) (g:=cuC) rfl rfl j rfl hjl rfl) rfl rfl ?_
     generalize (badL t)[j]=y at hsn hb64 ⊢
     generalize aftT (badL t) x.tg x.rev j=acc at hsn hal ⊢
     (repeat'(first|refine Z2 59 ?_|refine Z0 59 ?_|refine st ?_|(apply B<;>intro hb<;>try cases hb)))<;>try refine At.mk ?_
     refine Z5 rfl rfl rfl ?_
     refine Z7 (Z4Y y hb64 x.tg (by omega) x.rev) rfl rfl rfl ⟨Zp _,trivial,trivial,trivial⟩ rfl ?_
     unfold befO at hsn
     generalize befC y x.tg x.rev=bc at hsn ⊢
     generalize befB y x.tg x.rev=bb at hsn ⊢
     cases bb
     · rw [if_neg (by decide), List.append_nil] at hsn
       (refine go ?_;repeat' (apply B<;>intro hb<;>try cases hb))
       refine⟨j+1,fun i=>i,hjl,by show (badL t).length-(j+1)<(badL t).length-j; omega,fun _ _=>rfl,Zo,
        ⟨⟨_,rfl,.pure _ hpp⟩,⟨_,rfl,.pure _ (Z1 _)⟩,⟨_,rfl,.ptr (ρ:=fun i=>i) 0 0 0 (by decide)⟩,⟨_,rfl,.ptr (ρ:=fun i=>i) 3 0 0 (by decide)⟩,⟨_,rfl,.pure _ (Z1 _)⟩,⟨_,rfl,.own (ρ:=fun i=>i) 5 (by decide)⟩,⟨_,rfl,.pure _ (ZX _)⟩,⟨_,rfl,.pure _ trivial⟩,⟨_,rfl,.pure _ trivial⟩,⟨_,rfl,.pure _ (Z1 _)⟩,⟨_,rfl,.pure _ trivial⟩,⟨_,by show some _=some _; rw [hjnc],.pure _ trivial⟩,trivial⟩,
        ⟨⟨by decide,_,rfl,RenB.single ⟨.pure _ trivial,.pure _ (Zw _ _),.pure _ (Zc _),.pure _ (ZX _),.pure _ (Z1 _),.pure _ (Z1 _),.pure _ (Z1 _),.own (ρ:=fun i=>i) 1 (by decide),.own (ρ:=fun i=>i) 2 (by decide),trivial⟩ rfl⟩,⟨by decide,_,rfl,.same _ (Zg (Z3x t) _)⟩,⟨by decide,_,rfl,.same _ (Zg (Z3y t) _)⟩,⟨by decide,_,rfl,.same _ ⟨Z5h x,trivial⟩⟩,⟨by decide,_,rfl,?_⟩,trivial⟩⟩
       rw [hsn]
       exact .same _ (Z1 _)
     · rw [if_pos rfl] at hsn
       (repeat'(first|refine Z2 67 ?_|refine Z0 67 ?_|refine st ?_|(apply B<;>intro hb<;>try cases hb)))<;>try refine At.mk ?_
       refine ZE (Zu (k:=5) (m := [cuC bc]) (fl:=true) rfl rfl rfl (fun q hq=>by rw [List.mem_singleton] at hq; subst hq; rfl) rfl (by
        show ((acc.map cuC).length+1)*48≤_
        rw [List.length_map];omega)) rfl rfl ?_
       (refine go ?_;repeat' (apply B<;>intro hb<;>try cases hb))
       refine⟨j+1,mv 5 8,hjl,by show (badL t).length-(j+1)<(badL t).length-j; omega,fun i hi=>absurd hi (Nat.not_lt_zero i),ZA rfl,
        ⟨⟨_,rfl,.pure _ hpp⟩,⟨_,rfl,.pure _ (Z1 _)⟩,⟨_,rfl,.ptr (ρ:=mv 5 8) 0 0 0 (by decide)⟩,⟨_,rfl,.ptr (ρ:=mv 5 8) 3 0 0 (by decide)⟩,⟨_,rfl,.pure _ (Z1 _)⟩,⟨_,rfl,.own (ρ:=mv 5 8) 5 (by decide)⟩,⟨_,rfl,.pure _ (ZX _)⟩,⟨_,rfl,.pure _ trivial⟩,⟨_,rfl,.pure _ trivial⟩,⟨_,rfl,.pure _ (Z1 _)⟩,⟨_,rfl,.pure _ trivial⟩,⟨_,by show some _=some _; rw [hjnc],.pure _ trivial⟩,trivial⟩,
        ⟨⟨by decide,_,rfl,RenB.single ⟨.pure _ trivial,.pure _ (Zw _ _),.pure _ (Zc _),.pure _ (ZX _),.pure _ (Z1 _),.pure _ (Z1 _),.pure _ (Z1 _),.own (ρ:=mv 5 8) 1 (by decide),.own (ρ:=mv 5 8) 2 (by decide),trivial⟩ rfl⟩,⟨by decide,_,rfl,.same _ (Zg (Z3x t) _)⟩,⟨by decide,_,rfl,.same _ (Zg (Z3y t) _)⟩,⟨by decide,_,rfl,.same _ ⟨Z5h x,trivial⟩⟩,⟨by decide,_,rfl,?_⟩,trivial⟩⟩
       show RenB _ _ ⟨2,acc.map cuC ++ [cuC bc]⟩ ⟨2,(aftT (badL t) x.tg x.rev (j+1)).map cuC⟩
       rw [hsn,List.map_append]
       exact .same _ (by show pureLL (acc.map cuC ++ [bc].map cuC); rw [← List.map_append]; exact Z1 _)
   · have hjl : j = (badL t).length := by omega
     subst hjl
     refine Zd (Zr (k:=11) rfl rfl (Z1 _)) ?_
     refine Z5 (Za (v:=false) rfl (decide_eq_false (Int.lt_irrefl _))) rfl rfl ?_
     repeat' (first|refine Z2E [] [(1,256)] [4194303,4194303,4194303,4194303,4194303,4194303,4194303,4194303,4194047,4194303,4194303,4194303,4194303,4194303,4194303,4194303,4194303,4194303,4194303,4194303,4194303,4194303] (by kernel_rfl) ?_|refine Z0 77 ?_|(first|refine st ?_|(apply B<;>intro hb<;>try cases hb)))
     refine At.mk ?_
     refine Zs (Zu (k:=1) (m := [ifR t x]) (fl:=true) rfl rfl rfl (fun q hq=>by rw [List.mem_singleton] at hq; subst hq; rfl) rfl (by
      show ((tk.map (ifR t)).length+1)*24≤_
      rw [List.length_map];omega)) rfl rfl ?_
     (repeat'(first|refine Z2 84 ?_|refine Z0 84 ?_|refine st ?_|(apply B<;>intro hb<;>try cases hb)))<;>try refine At.mk ?_
     refine Zs (Zu (k:=2) (m := [afR t x]) (fl:=true) rfl rfl rfl (fun q hq=>by rw [List.mem_singleton] at hq; subst hq; rfl) rfl (by
      show ((tk.map (afR t)).length+1)*24≤_
      rw [List.length_map];omega)) rfl rfl ?_
     (refine go ?_;repeat' (apply B<;>intro hb<;>try cases hb))
     refine⟨i+1,fun i=>mv 1 14 (mv 2 21 i),hil,by show t.rs.length-(i+1)<t.rs.length-i; omega,fun i hi=>absurd hi (Nat.not_lt_zero i),ZA rfl,
      ⟨⟨_,rfl,.pure _ hpp⟩,⟨_,rfl,.pure _ (Z1 _)⟩,⟨_,rfl,.ptr (ρ:=fun i=>mv 1 14 (mv 2 21 i)) 0 0 0 (by decide)⟩,⟨_,rfl,.pure _ (ZX _)⟩,⟨_,rfl,.pure _ trivial⟩,⟨_,by show some _=some _; rw [hinc],.pure _ trivial⟩,trivial⟩,
      ⟨⟨by decide,_,rfl,RenB.single ⟨.pure _ trivial,.pure _ (Zw _ _),.pure _ (Zc _),.pure _ (ZX _),.pure _ (Z1 _),.pure _ (Z1 _),.pure _ (Z1 _),.own (ρ:=fun i=>mv 1 14 (mv 2 21 i)) 1 (by decide),.own (ρ:=fun i=>mv 1 14 (mv 2 21 i)) 2 (by decide),trivial⟩ rfl⟩,⟨by decide,_,rfl,?_⟩,⟨by decide,_,rfl,?_⟩,trivial⟩⟩
     · show RenB _ _ ⟨1, tk.map (ifR t) ++ [ifR t x]⟩ ⟨1, (t.rs.take (i + 1)).map (ifR t)⟩
       rw [htk,List.map_append]
       exact .same _ (by rw [← List.map_singleton,← List.map_append]; exact Zg (Z3x t) _)
     · show RenB _ _ ⟨1, tk.map (afR t) ++ [afR t x]⟩ ⟨1, (t.rs.take (i + 1)).map (afR t)⟩
       rw [htk,List.map_append]
       exact .same _ (by rw [← List.map_singleton,← List.map_append]; exact Zg (Z3y t) _)
 · have hil : i = t.rs.length := by omega
   subst hil
   rw [List.take_length]
   refine Zd (ZB (ob:=0) (id:=1) (i0:=0) (j0:=7) rfl rfl (by decide) (Zg (Z3x t) _) (Nat.le_of_ble_eq_true rfl) (Nat.le_of_ble_eq_true rfl) rfl) ?_
   refine Zd (ZB (ob:=0) (id:=2) (i0:=0) (j0:=8) rfl rfl (by decide) (Zg (Z3y t) _) (Nat.le_of_ble_eq_true rfl) (Nat.le_of_ble_eq_true rfl) rfl) ?_
   refine Zd (Z1p (k:=6) (l:=srC t S) rfl rfl (Z3z t S)) ?_
   refine Z5 (Za (v:=false) rfl (decide_eq_false (Int.lt_irrefl _))) rfl rfl ?_
   (refine go ?_;repeat' (apply B<;>intro hb<;>try cases hb))
   exact Z8 rfl ⟨Z3z t S,trivial,trivial⟩ rfl
theorem Z5j {m a b:Nat} (ha:a<18446744073709551616) (hb:b<18446744073709551616) (h:a ||| m=m):minusN a b ||| m=m:=orSub.2 fun i hi=>by
 rw [Zz ha hb,Bool.and_eq_true] at hi
 exact orSub.1 h i hi.1
theorem Z9R {c:Cu} (h:InM 62 c) {tg:Nat} (ht:tg<64) (rev:Bool):InM 62 (befC c tg rev):=by
 have h64:=h.lt (by decide)
 have hp:=ZL ht
 unfold befC
 split
 · exact⟨h.1,Z5j h64.2 hp h.2⟩
 · exact⟨Z5j h64.1 hp h.1,h.2⟩
theorem Z9S {c:Cu} (h:InM 62 c) {tg:Nat} (ht:1≤tg∧tg≤5) (rev:Bool):InM 62 (befD c tg rev):=by
 have h1:=Z9R h (show tg<64 by omega) rev
 have hb:=bit62 ht.1 ht.2
 unfold befD
 split
 · exact Z7D h1 hb
 · exact ZaL h1 hb
theorem ZdE {t:PB} (h:PbOk t) {r:RU} (hr:RuOk t.n r):(∀ c∈aftL t r,InM 62 c)∧(aftL t r).length≤2048:=by
 have hb:=Z64 h
 have ht:=hr.tg
 refine⟨fun c hc=>?_,by have:=ZaV (badL t) r.tg r.rev (badL t).length; unfold aftL; omega⟩
 unfold aftL aftT at hc
 rcases List.mem_append.1 hc with hc|hc
 · exact hb.1 c hc
 · obtain ⟨x, hx, hc⟩ := List.mem_flatMap.1 hc
   unfold befO at hc
   split at hc
   · rw [List.mem_singleton] at hc; subst hc
     exact Z9R (hb.1 x (List.mem_of_mem_take hx)) (by omega) _
   · cases hc
def metO (y i:Cu):List Cu:=if (meC y i).2 then [(meC y i).1] else []
def metL (y:Cu) (l:List Cu):List Cu:=l.flatMap (metO y)
theorem ZdF {a b:Cu} {m:Nat} (ha:InM m a) (hb:InM m b):InM m (bothC a b):=⟨orSub.2 fun i hi=>by
 rw [show (bothC a b).1=a.1 ||| b.1 from rfl,Nat.testBit_or,Bool.or_eq_true] at hi
 exact hi.elim (orSub.1 ha.1 i) (orSub.1 hb.1 i),orSub.2 fun i hi=>by
 rw [show (bothC a b).2=a.2 ||| b.2 from rfl,Nat.testBit_or,Bool.or_eq_true] at hi
 exact hi.elim (orSub.1 ha.2 i) (orSub.1 hb.2 i)⟩
theorem Zg5 {y i:Cu} (hy:InM 62 y) (hi:InM 62 i):∀ c∈metO y i,InM 62 c:=fun c hc=>by
 unfold metO meC at hc
 by_cases h:emC (bothC y i)=true
 · rw [if_pos h,if_neg (by decide)] at hc; cases hc
 · rw [if_neg h,if_pos rfl,List.mem_singleton] at hc; subst hc; exact ZdF hy hi
theorem ZeZ (y i:Cu):(metO y i).length≤1:=by unfold metO; split<;>simp
theorem Z9T {y:Cu} (hy:InM 62 y) {l:List Cu} (hl:∀ i∈l,InM 62 i):∀ c∈metL y l,InM 62 c:=fun c hc=>by
 obtain⟨i,hi,hc⟩:=List.mem_flatMap.1 hc
 exact Zg5 hy (hl i hi) c hc
theorem Zf0 (y:Cu) (l:List Cu):(metL y l).length≤l.length:=by
 have:=Z4s (l:=l) (f:=metO y) (k:=1) fun x _=>ZeZ y x
 unfold metL; omega
theorem ZdG (y:Cu) {l:List Cu} {j:Nat} (hj:j<l.length):metL y (l.take (j+1))=metL y (l.take j)++metO y l[j]:=by
 unfold metL
 rw [ZV hj,List.flatMap_append]; simp
noncomputable def bfL (t:PB) (r:RU) (c:Cu):List Cu:=if befB c r.tg r.rev then simL (splAll (aftL t r) (metL (befD c r.tg r.rev) (exL t.l t.n r.cu))) else []
set_option maxRecDepth 100000 in
set_option maxHeartbeats 8000000 in
theorem Z50 {t:PB} (h:PbOk t) (S:List Nat) (c:Cu) (hc:InM 62 c) (k:Nat) (hk:k<t.rs.length):Spec Tryz.prog 68 [.cp (srC t S),cuP c,.val (.int .i64 (k:Int))] (· = .tup [.vec ((bfL t t.rs[k] c).map cuC) false,.val (.int .i64 0)]):=by
 have hsr:=Z3z t S
 have hro:=h.rs _ (List.getElem_mem hk)
 have hc64:=hc.lt (by decide)
 refine Z4 ok68 (Nat.le_of_ble_eq_true rfl) fun C hC=>?_
 refine Zk ?_
 refine Zb ?_
 refine Z6 rfl rfl rfl ?_
 (repeat'(first|refine Z2 23 ?_|refine Z0 23 ?_|refine st ?_|(apply B<;>intro hb<;>try cases hb)))<;>try refine At.mk ?_
 refine Z5 (Zn (xs:=t.rs) (g:=ruP) rfl rfl k rfl hk rfl) rfl rfl ?_
 generalize hx:t.rs[k]=x at hro ⊢
 have hxt:=hro.tg
 (repeat'(first|refine Z2 30 ?_|refine Z0 30 ?_|refine st ?_|(apply B<;>intro hb<;>try cases hb)))<;>try refine At.mk ?_
 refine Z5 rfl rfl rfl ?_
 refine Z7 (Z4Y c hc64 x.tg (by omega) x.rev) rfl rfl rfl ⟨Zp _,trivial,trivial,trivial⟩ rfl ?_
 unfold bfL
 cases hbb:befB c x.tg x.rev
 · rw [if_neg (by decide)]
   (refine go ?_;repeat' (apply B<;>intro hb<;>try cases hb))
   exact Z1g rfl ⟨trivial,trivial,trivial⟩ rfl
 rw [if_pos rfl]
 have hbc:=(Z9R hc (show x.tg<64 by omega) x.rev).lt (by decide)
 (repeat'(first|refine Z2 34 ?_|refine Z0 34 ?_|refine st ?_|(apply B<;>intro hb<;>try cases hb)))<;>try refine At.mk ?_
 refine Z5 rfl rfl rfl ?_
 iterate 4 (first|refine st ?_|(apply B<;>intro hb<;>try cases hb))
 refine Zfh hC True 2 [(0,.cp (srC t S)),(2,.val (.int .i64 (k:Int))),(9,.ptr 1 0 0)] [(1,⟨2,[cuC (befD c x.tg x.rev)]⟩)] (Nat.zero_le _) ?_ fun _=>?_
 · have hbd : befD c x.tg x.rev = if x.rev then ((befC c x.tg x.rev).1 ||| 2 ^ x.tg, (befC c x.tg x.rev).2) else ((befC c x.tg x.rev).1, (befC c x.tg x.rev).2 ||| 2 ^ x.tg) := rfl
   rw [hbd]
   generalize befC c x.tg x.rev=bc at hbc ⊢
   (repeat'(first|refine Z2 37 ?_|refine Z0 37 ?_|refine st ?_|(apply B<;>intro hb<;>try cases hb)))<;>try refine At.mk ?_
   cases hv:x.rev
   · rw [if_neg (by decide)]
     refine Z5 (Za (v:=false) rfl hv) rfl rfl ?_
     (repeat'(first|refine Z2 48 ?_|refine Z0 48 ?_|refine st ?_|(apply B<;>intro hb<;>try cases hb)))<;>try refine At.mk ?_
     refine Z7 (Z1y _ hbc.2 x.tg (by omega)) rfl rfl rfl ⟨Z3 _,trivial,trivial⟩ rfl ?_
     (refine go ?_;repeat' (apply B<;>intro hb<;>try cases hb))
     exact⟨trivial,⟨⟨rfl,Z18 (fun _ h=>h.elim) _ hsr⟩,⟨rfl,trivial⟩,⟨rfl,show (1:Nat)<2 by decide⟩,trivial⟩,⟨by decide,rfl,⟨Zi _ _,Zi _ _,trivial⟩,trivial⟩,trivial⟩
   · rw [if_pos rfl]
     refine Z5 (Za (v:=true) rfl hv) rfl rfl ?_
     (repeat'(first|refine Z2 42 ?_|refine Z0 42 ?_|refine st ?_|(apply B<;>intro hb<;>try cases hb)))<;>try refine At.mk ?_
     refine Z7 (Z1y _ hbc.1 x.tg (by omega)) rfl rfl rfl ⟨Z3 _,trivial,trivial⟩ rfl ?_
     (refine go ?_;repeat' (apply B<;>intro hb<;>try cases hb))
     exact⟨trivial,⟨⟨rfl,Z18 (fun _ h=>h.elim) _ hsr⟩,⟨rfl,trivial⟩,⟨rfl,show (1:Nat)<2 by decide⟩,trivial⟩,⟨by decide,rfl,⟨Zi _ _,Zi _ _,trivial⟩,trivial⟩,trivial⟩
 have hy:=Z9S hc ⟨hxt.1,hxt.2.2⟩ x.rev
 generalize befD c x.tg x.rev=y at hy ⊢
 have hy64:=hy.lt (by decide)
 obtain⟨-,-,hel,hei⟩:=Z6S h hro.m
 have haf:=ZdE h hro
 repeat' (first|refine Zd (ZG (k:=11) rfl 2 (by decide)) ?_|(first|refine st ?_|(apply B<;>intro hb<;>try cases hb)))
 refine Z5 (Zn (xs:=t.rs) (g:=ifR t) rfl rfl k rfl hk rfl) rfl rfl ?_
 rw [hx]
 (refine go ?_;repeat' (apply B<;>intro hb<;>try cases hb))
 have hnl:((exL t.l t.n x.cu).map cuC).length=(exL t.l t.n x.cu).length:=by simp
 refine ZJ hC (fun (j:Nat)=>j≤(exL t.l t.n x.cu).length) (fun j=>(exL t.l t.n x.cu).length-j) 3 (fun j => [(0,.cp (srC t S)),(2,.val (.int .i64 (k:Int))),(9,.ptr 1 0 0),(11,.own 2),(56,.vec ((exL t.l t.n x.cu).map cuC) false),(57,.val (.int .i64 ((exL t.l t.n x.cu).length:Int))),(58,.val (.int .i64 (j:Int)))])
  (fun j => [(1,⟨2,[cuC y]⟩),(2,⟨2,(metL y ((exL t.l t.n x.cu).take j)).map cuC⟩)]) (Nat.zero_le _) 0 (Nat.zero_le _) (fun i=>i) (fun _ _=>rfl) Zo
  ⟨⟨_,rfl,.pure _ hsr⟩,⟨_,rfl,.pure _ trivial⟩,⟨_,rfl,.ptr (ρ:=fun i=>i) 1 0 0 (by decide)⟩,⟨_,rfl,.own (ρ:=fun i=>i) 2 (by decide)⟩,⟨_,rfl,.pure _ (Z1 _)⟩,⟨_,by rw [← hnl]; rfl,.pure _ trivial⟩,⟨_,rfl,.pure _ trivial⟩,trivial⟩ ⟨⟨by decide,_,rfl,.same _ ⟨Zj y,trivial⟩⟩,⟨by decide,_,rfl,.same _ trivial⟩,trivial⟩ ?_
 intro j hj
 have hinc:IntKind.i64.wrap ((j:Int)+1)=((j+1:Nat):Int):=IntWalk.i64_in _ ⟨by omega,by omega⟩
 have hml:=Zf0 y ((exL t.l t.n x.cu).take j)
 rw [List.length_take] at hml
 (repeat'(first|refine Z2 59 ?_|refine Z0 59 ?_|refine st ?_|(apply B<;>intro hb<;>try cases hb)))<;>try refine At.mk ?_
 by_cases hjl:j<(exL t.l t.n x.cu).length
 · have hsn := ZdG y hjl
   have hz:=(hei _ (List.getElem_mem hjl)).lt (by decide)
   refine Z5 (Za (v:=true) rfl (decide_eq_true (Int.ofNat_lt.2 hjl))) rfl rfl ?_
   (refine go ?_;repeat' (apply B<;>intro hb<;>try cases hb))
   refine Z5 (Zn (xs:=exL t.l t.n x.cu) (g:=cuC) rfl rfl j rfl hjl rfl) rfl rfl ?_
   generalize (exL t.l t.n x.cu)[j]=z at hsn hz ⊢
   generalize metL y ((exL t.l t.n x.cu).take j)=acc at hsn hml ⊢
   (repeat'(first|refine Z2 65 ?_|refine Z0 65 ?_|refine st ?_|(apply B<;>intro hb<;>try cases hb)))<;>try refine At.mk ?_
   refine Z7 (Z6J y z hy64 hz) rfl rfl rfl ⟨Zp _,Zp _,trivial⟩ rfl ?_
   unfold metO at hsn
   generalize meC y z=mz at hsn ⊢
   obtain⟨mc,mb⟩:=mz
   cases mb
   · have hsn : metL y ((exL t.l t.n x.cu).take (j + 1)) = acc ++ [] := hsn
     rw [List.append_nil] at hsn
     (refine go ?_;repeat' (apply B<;>intro hb<;>try cases hb))
     refine⟨j+1,fun i=>i,hjl,by show (exL t.l t.n x.cu).length-(j+1)<(exL t.l t.n x.cu).length-j; omega,fun _ _=>rfl,Zo,
      ⟨⟨_,rfl,.pure _ hsr⟩,⟨_,rfl,.pure _ trivial⟩,⟨_,rfl,.ptr (ρ:=fun i=>i) 1 0 0 (by decide)⟩,⟨_,rfl,.own (ρ:=fun i=>i) 2 (by decide)⟩,⟨_,rfl,.pure _ (Z1 _)⟩,⟨_,rfl,.pure _ trivial⟩,⟨_,by show some _=some _; rw [hinc],.pure _ trivial⟩,trivial⟩,⟨⟨by decide,_,rfl,.same _ ⟨Zj y,trivial⟩⟩,⟨by decide,_,rfl,?_⟩,trivial⟩⟩
     rw [hsn]
     exact .same _ (Z1 _)
   · have hsn : metL y ((exL t.l t.n x.cu).take (j + 1)) = acc ++ [mc] := hsn
     (repeat'(first|refine Z2 72 ?_|refine Z0 72 ?_|refine st ?_|(apply B<;>intro hb<;>try cases hb)))<;>try refine At.mk ?_
     refine ZE (Zu (k:=2) (m := [cuC mc]) (fl:=true) rfl rfl rfl (fun q hq=>by rw [List.mem_singleton] at hq; subst hq; rfl) rfl (by
      show ((acc.map cuC).length+1)*48≤_
      rw [List.length_map];omega)) rfl rfl ?_
     (refine go ?_;repeat' (apply B<;>intro hb<;>try cases hb))
     refine⟨j+1,mv 2 5,hjl,by show (exL t.l t.n x.cu).length-(j+1)<(exL t.l t.n x.cu).length-j; omega,fun i hi=>absurd hi (Nat.not_lt_zero i),ZA rfl,
      ⟨⟨_,rfl,.pure _ hsr⟩,⟨_,rfl,.pure _ trivial⟩,⟨_,rfl,.ptr (ρ:=mv 2 5) 1 0 0 (by decide)⟩,⟨_,rfl,.own (ρ:=mv 2 5) 2 (by decide)⟩,⟨_,rfl,.pure _ (Z1 _)⟩,⟨_,rfl,.pure _ trivial⟩,⟨_,by show some _=some _; rw [hinc],.pure _ trivial⟩,trivial⟩,⟨⟨by decide,_,rfl,.same _ ⟨Zj y,trivial⟩⟩,⟨by decide,_,rfl,?_⟩,trivial⟩⟩
     show RenB _ _ ⟨2,acc.map cuC ++ [cuC mc]⟩ ⟨2,(metL y ((exL t.l t.n x.cu).take (j+1))).map cuC⟩
     rw [hsn,List.map_append]
     exact .same _ (by show pureLL (acc.map cuC ++ [mc].map cuC); rw [← List.map_append]; exact Z1 _)
 · have hjl : j = (exL t.l t.n x.cu).length := by omega
   subst hjl
   rw [List.take_length] at hml ⊢
   have hmi:=Z9T hy hei
   have hsl:=Z4K haf.1 _ hmi
   refine Zd (Zr (k:=11) rfl rfl (Z1 _)) ?_
   refine Z5 (Za (v:=false) rfl (decide_eq_false (Int.lt_irrefl _))) rfl rfl ?_
   (repeat'(first|refine Z2 81 ?_|refine Z0 81 ?_|refine st ?_|(apply B<;>intro hb<;>try cases hb)))<;>try refine At.mk ?_
   refine Z5 (Zn (xs:=t.rs) (g:=afR t) rfl rfl k rfl hk rfl) rfl rfl ?_
   rw [hx]
   (repeat'(first|refine Z2 83 ?_|refine Z0 83 ?_|refine st ?_|(apply B<;>intro hb<;>try cases hb)))<;>try refine At.mk ?_
   refine Z7 (Z63 (aftL t x) _ false false haf.1 (by omega) hmi (by omega)) rfl rfl rfl ⟨Z1 _,Z1 _,trivial⟩ rfl ?_
   (repeat'(first|refine Z2 90 ?_|refine Z0 90 ?_|refine st ?_|(apply B<;>intro hb<;>try cases hb)))<;>try refine At.mk ?_
   refine Z7 (Z3e _ false (Z2A haf.1 hmi) (by omega)) rfl rfl rfl ⟨Z1 _,trivial⟩ rfl ?_
   (refine go ?_;repeat' (apply B<;>intro hb<;>try cases hb))
   exact Z8 rfl ⟨Z1 _,trivial,trivial⟩ rfl
theorem Zf1 (S:Nat):hoC (0,0) S=true:=(Z14 _ _).2 ⟨fun i hi=>by simp at hi,fun i hi=>by simp at hi⟩
theorem Zg6 (y:Cu) (l:List Cu) (S:Nat):soC (metL y l) S=(hoC y S&&soC l S):=by
 unfold metL
 rw [Z7H]
 induction l with
 | nil=>simp [soC]
 | cons i l ih =>
   rw [List.any_cons,ih,Z2N]
   have e:soC (metO y i) S=(hoC y S&&hoC i S):=by
    unfold metO meC
    by_cases h:emC (bothC y i)=true
    · rw [if_pos h,if_neg (by decide),← Z4F,Z2f h]; rfl
    · rw [if_neg h,if_pos rfl,Z3R,Z4F]
   rw [e]
   cases hoC y S<;>cases hoC i S<;>cases soC l S<;>rfl
theorem ZgC {t:PB} (h:PbOk t) {r:RU} (hr:RuOk t.n r) {S:Nat} (hS:InS t S):soC (aftL t r) S=(!goodB t S || !goodB t (nextR r S)):=by
 have hb:=Z64 h
 have ht:=hr.tg
 have hn:=ZaN ht.1 ht.2.1 h.n.2 hS
 rw [← ZdC h hS,← ZdC h hn]
 unfold aftL aftT
 rw [List.take_length]
 have e:soC (badL t++(badL t).flatMap (befO r.tg r.rev)) S=(soC (badL t) S||soC ((badL t).flatMap (befO r.tg r.rev)) S):=List.any_append
 rw [e,Z7H]
 congr 1
 unfold soC
 rw [Bool.eq_iff_iff,List.any_eq_true,List.any_eq_true]
 refine exists_congr fun b=>and_congr_right fun hbm=>?_
 rw [Zdq (Z2R hb.1 b hbm) (show r.tg<64 by omega) (hS.lt h.n.2)]
 unfold befO
 cases befB b r.tg r.rev with
 | true=>rw [if_pos rfl,Bool.true_and]; simp [soC]
 | false=>rw [if_neg (by decide),Bool.false_and]; simp [soC]
theorem ZgD {t:PB} (h:PbOk t) {r:RU} (hr:RuOk t.n r) {c:Cu} (hc:InM 62 c) {S:Nat} (hS:InS t S):soC (bfL t r c) S=(goodB t S&&(stepR t r S&&hoC c (nextR r S))):=by
 have ht:=hr.tg
 have hc64:=hc.lt (by decide)
 have hbd:=ZeT hc64 (show r.tg<64 by omega) (hS.lt h.n.2)
 have hex:=Zfr h.good.small h.n.2 hr.cu hS
 obtain⟨-,-,hel,hei⟩:=Z6S h hr.m
 have haf:=ZdE h hr
 have hrv:(r.rev||hoC r.cu (clo t.l S))=hoC r.cu (clo t.l S):=by
  cases hv:r.rev with
  | false=>rfl
  | true=>rw [hr.rv hv,Zf1]; rfl
 unfold stepR
 rw [hrv]
 unfold bfL
 cases hbb:befB c r.tg r.rev with
 | false =>
   rw [if_neg (by decide)]
   rw [hbb,Bool.false_and] at hbd
   show false=_
   generalize goodB t S=g1
   generalize goodB t (nextR r S)=g2
   generalize hoC r.cu (clo t.l S)=g3
   generalize decide (nextR r S≠S)=g4 at hbd ⊢
   generalize hoC c (nextR r S)=g5 at hbd ⊢
   revert hbd
   cases g1<;>cases g2<;>cases g3<;>cases g4<;>cases g5<;>decide
 | true =>
   rw [if_pos rfl]
   rw [hbb,Bool.true_and] at hbd
   have hyi:=Z9S hc ⟨ht.1,ht.2.2⟩ r.rev
   rw [Z5W (Z2R (Z2A haf.1 (Z9T hyi hei))),Z8v haf.1,Zg6,hex,ZgC h hr hS,hbd]
   generalize goodB t S=g1
   generalize goodB t (nextR r S)=g2
   generalize hoC r.cu (clo t.l S)=g3
   generalize decide (nextR r S≠S)=g4
   generalize hoC c (nextR r S)=g5
   cases g1<;>cases g2<;>cases g3<;>cases g4<;>cases g5<;>decide
theorem ZgE {t:PB} (h:PbOk t) {r:RU} (hr:RuOk t.n r) {c:Cu} (hc:InM 62 c):(∀ c'∈bfL t r c,InM 62 c'∧emC c'=false)∧(bfL t r c).length≤1024:=by
 have ht:=hr.tg
 obtain⟨-,-,hel,hei⟩:=Z6S h hr.m
 have haf:=ZdE h hr
 have hyi:=Z9S hc ⟨ht.1,ht.2.2⟩ r.rev
 have h2:=sim62 (Z2A haf.1 (Z9T hyi hei))
 unfold bfL
 split
 · exact⟨fun c' hc'=>⟨h2.1 c' hc',(Z1J hc').2⟩,h2.2⟩
 · exact⟨(fun c' hc'=>by cases hc'),by simp⟩
noncomputable def bfV (t:PB) (c:Cu) (k:Int):PV :=
 if h : 0≤k∧k.toNat < t.rs.length then (if (c.1 ||| c.2) < 2 ^ (t.n + 1) then .tup [.vec ((bfL t (t.rs[k.toNat]'h.2) c).map cuC) false,.val (.int .i64 0)] else .tup [.vec [] false,.val (.int .i64 4)]) else .tup [.vec [] false,.val (.int .i64 1)]
theorem Z8w {m k:Nat}:m<2 ^ k↔m ||| (2 ^ k-1)=2 ^ k-1:=by
 constructor
 · intro h
   refine orSub.2 fun i hi=>?_
   rw [Nat.testBit_two_pow_sub_one]
   refine decide_eq_true (Nat.lt_of_not_le fun hk=>?_)
   rw [Nat.testBit_lt_two_pow (Nat.lt_of_lt_of_le h (Nat.pow_le_pow_right (by decide) hk))] at hi
   cases hi
 · intro h
   have:m≤2 ^ k-1:=by rw [← h]; exact Nat.left_le_or
   have:=Nat.two_pow_pos k
   omega
set_option maxRecDepth 100000 in
set_option maxHeartbeats 4000000 in
theorem Z8x {t:PB} (h:PbOk t) (S:List Nat) (c:Cu) (hc:Ok64 c) (h0:(c.1 ||| c.2).testBit 0=false) (h62:(c.1 ||| c.2)<2 ^ (t.n+1)→InM 62 c) (k:Int):Spec Tryz.prog 26 [.agg (pbP t S),cuP c,.val (.int .i64 k)] (· = bfV t c k):=by
 have hpp:=Z17 t S
 have hn:=h.n
 have hrl:(t.rs.map ruP).length=t.rs.length:=by simp
 have hrb:=h.rl
 have hp1:2 ^ (t.n+1)≤2 ^ 64:=Nat.pow_le_pow_right (by decide) (by omega)
 have hp0:=Nat.two_pow_pos (t.n+1)
 have hinc0:IntKind.i64.wrap ((t.n:Int)+1)=((t.n+1:Nat):Int):=IntWalk.i64_in _ ⟨by omega,by omega⟩
 have hm64:=Z1X hc.1 hc.2
 unfold bfV
 refine Z4 ok26 (Nat.le_of_ble_eq_true rfl) fun C hC=>?_
 refine Zk ?_
 refine Zb ?_
 refine Z6 rfl rfl rfl ?_
 refine Z6 rfl rfl rfl ?_
 (repeat'(first|refine Z2 13 ?_|refine Z0 13 ?_|refine st ?_|(apply B<;>intro hb<;>try cases hb)))<;>try refine At.mk ?_
 refine Z7 (Z5i h S) rfl rfl rfl ⟨hpp,trivial⟩ rfl ?_
 (repeat'(first|refine Z2 18 ?_|refine Z0 18 ?_|refine st ?_|(apply B<;>intro hb<;>try cases hb)))<;>try refine At.mk ?_
 by_cases hk:k<0
 · rw [dif_neg (by omega)]
   refine Z5 (Za (v:=true) rfl (decide_eq_true hk)) rfl rfl ?_
   (refine go ?_;repeat' (apply B<;>intro hb<;>try cases hb))
   exact Z1g rfl ⟨trivial,trivial,trivial⟩ rfl
 refine Z5 (Za (v:=false) rfl (decide_eq_false hk)) rfl rfl ?_
 obtain⟨j,rfl⟩:∃ j:Nat,k=(j:Int):=⟨k.toNat,by omega⟩
 simp only [Int.toNat_natCast]
 (repeat'(first|refine Z2 24 ?_|refine Z0 24 ?_|refine st ?_|(apply B<;>intro hb<;>try cases hb)))<;>try refine At.mk ?_
 refine Zq rfl ?_
 by_cases hj:j<t.rs.length
 case neg =>
  rw [dif_neg (by omega)]
  refine Z5 (Za (v:=true) rfl (decide_eq_true (by rw [hrl];omega))) rfl rfl ?_
  (refine go ?_;repeat' (apply B<;>intro hb<;>try cases hb))
  exact Z1g rfl ⟨trivial,trivial,trivial⟩ rfl
 rw [dif_pos ⟨by omega,hj⟩]
 refine Z5 (Za (v:=false) rfl (decide_eq_false (by rw [hrl];omega))) rfl rfl ?_
 (repeat'(first|refine Z2 30 ?_|refine Z0 30 ?_|refine st ?_|(apply B<;>intro hb<;>try cases hb)))<;>try refine At.mk ?_
 refine Z7 (Z1S c.1 c.2 hc.1 hc.2) rfl rfl rfl ⟨Z3 _,Z3 _,trivial⟩ rfl ?_
 have hha:=Z1q (c.1 ||| c.2) hm64 0
 rw [show (0:Int).toNat=0 from rfl,h0,Bool.and_false] at hha
 (repeat'(first|refine Z2 32 ?_|refine Z0 32 ?_|refine st ?_|(apply B<;>intro hb<;>try cases hb)))<;>try refine At.mk ?_
 refine Zx hha rfl rfl rfl ⟨Z3 _,trivial,trivial⟩ ?_
 (repeat'(first|refine Z2 37 ?_|refine Z0 37 ?_|refine st ?_|(apply B<;>intro hb<;>try cases hb)))<;>try refine At.mk ?_
 refine Z2o rfl ?_
 refine Zs (Z44 rfl hinc0) rfl rfl ?_
 refine Z2o rfl ?_
 refine Zx (Z4I (t.n+1) (by omega) (by omega)) rfl rfl rfl ⟨trivial,trivial⟩ ?_
 refine Z2o rfl ?_
 refine Zx (Z1t (c.1 ||| c.2) (2 ^ (t.n+1)-1) hm64 (by omega)) rfl rfl rfl ⟨Z3 _,Z3 _,trivial⟩ ?_
 by_cases hw:(c.1 ||| c.2)<2 ^ (t.n+1)
 case neg =>
  rw [if_neg hw,decide_eq_false (fun h=>hw (Z8w.2 h))]
  (refine go ?_;repeat' (apply B<;>intro hb<;>try cases hb))
  exact Z1g rfl ⟨trivial,trivial,trivial⟩ rfl
 rw [if_pos hw,decide_eq_true (Z8w.1 hw)]
 (repeat'(first|refine Z2 44 ?_|refine Z0 44 ?_|refine st ?_|(apply B<;>intro hb<;>try cases hb)))<;>try refine At.mk ?_
 refine Z7 (Z4Z h S) rfl rfl rfl ⟨hpp,trivial⟩ rfl ?_
 (repeat'(first|refine Z2 53 ?_|refine Z0 53 ?_|refine st ?_|(apply B<;>intro hb<;>try cases hb)))<;>try refine At.mk ?_
 refine Z7 (Z50 h S c (h62 hw) j hj) rfl rfl rfl ⟨Z3z t S,Zp _,trivial,trivial⟩ rfl ?_
 (refine go ?_;repeat' (apply B<;>intro hb<;>try cases hb))
 exact Z8 rfl ⟨Z1 _,trivial,trivial⟩ rfl
end Go.Proofs.YthgklpbcmbmmcaaGreatDoor
namespace Go.Proofs.YthgklpbcmbmmcaaGreatDoor
open Go.RowKit
theorem Zfu {l:List Pr} {n N:Nat}:∀ (rs:List Nat) (x:List Cu),(∀ c∈x,c.1 ||| mkN n=mkN n∧c.2=N)→∀ c∈exF l n rs x,c.1 ||| mkN n=mkN n∧c.2=N
 | [],x,h=>h
 | r :: rs, x, h => Zfu rs _ fun c hc => by
   obtain⟨y,hy,hc⟩:=List.mem_flatMap.1 (Z1J hc).1
   obtain⟨a,ha,rfl⟩:=List.mem_map.1 hc
   refine⟨orSub.2 fun i hi=>?_,(h y hy).2⟩
   rw [Nat.testBit_or,Bool.or_eq_true,Nat.testBit_two_pow,decide_eq_true_eq] at hi
   rcases hi with hi|rfl
   · exact orSub.1 (h y hy).1 i hi
   · have := (List.mem_filter.1 ha).2
     rw [Nat.testBit_and,Bool.and_eq_true] at this
     exact this.2
theorem ZgF {t:PB} (c:Cu):∀ c'∈exL t.l t.n c,InM (mkN t.n) c':=fun c' hc'=>by
 have h1:=Zfu (l:=t.l) (n:=t.n) (mem c.1) [(0,exN t.l t.n (mem c.2))] (fun c hc=>by rw [List.mem_singleton] at hc; subst hc; exact⟨Nat.zero_or _,rfl⟩) c' hc'
 refine⟨h1.1,?_⟩
 rw [h1.2]
 refine orSub.2 fun i hi=>?_
 rcases (Z5Y t.l t.n i (mem c.2) 0).1 hi with h2|⟨r,hr',h2,h3⟩
 · simp at h2
 · exact h3
theorem Z9U {m:Nat} {l:List Cu} (hl:∀ c∈l,InM m c):∀ c∈simL l,InM m c:=fun c hc=>hl c (Z1J hc).1
theorem Zg7 {m:Nat} {l:List Cu} {c:Cu} (hl:∀ b∈l,InM m b) (hc:InM m c):∀ c'∈splL l c,InM m c':=by
 have main:∀ (l:List Cu),(∀ b∈l,InM m b)→∀ out:List Cu,(∀ c∈out,InM m c)→∀ c∈l.foldl splS out,InM m c:=by
  intro l
  induction l with
  | nil=>exact fun _ out h=>h
  | cons b l ih=>exact fun hl out h=>ih (fun x hx=>hl x (List.mem_cons_of_mem _ hx)) _ (Z9A h (hl b (List.mem_cons_self ..)))
 refine main l hl _ fun c' hc'=>?_
 split at hc'
 · cases hc'
 · rw [List.mem_singleton] at hc'; subst hc'; exact hc
theorem ZaW {m:Nat} {bad l:List Cu} (hb:∀ b∈bad,InM m b) (hl:∀ c∈l,InM m c):∀ c∈splAll bad l,InM m c:=fun c hc=>by
 obtain⟨x,hx,hc⟩:=List.mem_flatMap.1 hc
 exact Zg7 hb (hl x hx) c hc
theorem ZaX (t:PB) (l:List Cu):∀ c∈expAll t l,InM (mkN t.n) c:=fun c hc=>by
 obtain⟨x,hx,hc⟩:=List.mem_flatMap.1 hc
 exact ZgF x c hc
theorem Zg8 (t:PB):∀ c∈badL t,InM (mkN t.n) c:=Z9U (ZaX t t.nv)
theorem ZgS (t:PB):∀ c∈tgtL t,InM (mkN t.n) c:=Z9U (ZaW (Zg8 t) (ZaX t t.gl))
theorem Zfv {m:Nat} {c:Cu} (h:InM m c) (hm:m<18446744073709551616) {tg:Nat} (ht:tg<64) (rev:Bool):InM m (befC c tg rev):=by
 have h64:=h.lt hm
 have hp:=ZL ht
 unfold befC
 split
 · exact⟨h.1,Z5j h64.2 hp h.2⟩
 · exact⟨Z5j h64.1 hp h.1,h.2⟩
theorem ZgU {t:PB} (h:PbOk t) {r:RU} (hr:RuOk t.n r) {c:Cu} (hc:InM (mkN t.n) c):∀ c'∈bfL t r c,InM (mkN t.n) c':=by
 have ht:=hr.tg
 have hm:=Z3F h.n.2
 have hbit:(mkN t.n).testBit r.tg=true:=by rw [Z2g,decide_eq_true ht.1,decide_eq_true ht.2.1]; rfl
 have h1:=Zfv hc hm (show r.tg<64 by omega) r.rev
 have hy:InM (mkN t.n) (befD c r.tg r.rev):=by
  unfold befD
  split
  · exact Z7D h1 hbit
  · exact ZaL h1 hbit
 have ha:∀ c∈aftL t r,InM (mkN t.n) c:=fun c hc=>by
  unfold aftL aftT at hc
  rcases List.mem_append.1 hc with hc|hc
  · exact Zg8 t c hc
  · obtain ⟨x, hx, hc⟩ := List.mem_flatMap.1 hc
    unfold befO at hc
    split at hc
    · rw [List.mem_singleton] at hc; subst hc
      exact Zfv (Zg8 t x (List.mem_of_mem_take hx)) hm (by omega) _
    · cases hc
 have hml:∀ c'∈metL (befD c r.tg r.rev) (exL t.l t.n r.cu),InM (mkN t.n) c':=fun c' hc'=>by
  obtain⟨i,hi,hc'⟩:=List.mem_flatMap.1 hc'
  have hi:=ZgF r.cu i hi
  unfold metO meC at hc'
  by_cases h:emC (bothC (befD c r.tg r.rev) i)=true
  · rw [if_pos h,if_neg (by decide)] at hc'; cases hc'
  · rw [if_neg h,if_pos rfl,List.mem_singleton] at hc'; subst hc'; exact ZdF hy hi
 unfold bfL
 split
 · exact Z9U (ZaW ha hml)
 · exact fun c' hc'=>by cases hc'
theorem ZdH {m:Nat} {c:Cu} (h:InM m c) (S:Nat):hoC c (S &&& m)=hoC c S:=by
 rw [Bool.eq_iff_iff,Z14,Z14]
 refine and_congr (forall_congr' fun i=>imp_congr_right fun hi=>?_) (forall_congr' fun i=>imp_congr_right fun hi=>?_)
 · rw [Nat.testBit_and,orSub.1 h.1 i hi,Bool.and_true]
 · rw [Nat.testBit_and,orSub.1 h.2 i hi,Bool.and_true]
theorem Zg9 {m:Nat} {l:List Cu} (h:∀ c∈l,InM m c) (S:Nat):soC l (S &&& m)=soC l S:=by
 unfold soC
 rw [Bool.eq_iff_iff,List.any_eq_true,List.any_eq_true]
 exact exists_congr fun c=>and_congr_right fun hc=>by rw [ZdH (h c hc)]
theorem Zf2 (t:PB) (S:Nat):InS t (S &&& mkN t.n):=orSub.2 fun i hi=>by
 rw [Nat.testBit_and,Bool.and_eq_true] at hi
 exact hi.2
abbrev KE:=Cu×Int×Nat
def kcs (ks:List KE):List Cu:=ks.map (·.1)
structure KInv (t:PB) (ks:List KE):Prop where
 mem:∀ e∈ks,InM 62 e.1∧InM (mkN t.n) e.1∧emC e.1=false
 how:∀ i e,ks[i]?=some e→(e.2.1 = -1∧∀ S,InS t S→hoC e.1 S=true→goodB t S=true∧reachB t S=true) ∨
  ∃ (r to:Nat) (x:RU) (e':KE),e.2=((r:Int),to)∧t.rs[r]?=some x∧to<i∧ks[to]?=some e'∧∀ S,InS t S→hoC e.1 S=true→goodB t S=true∧stepR t x S=true∧hoC e'.1 (nextR x S)=true
 ws:∃ ws:List Nat,ws.length=ks.length∧ws.Nodup∧∀ w∈ws,InS t w∧soC (kcs ks) w=true
theorem KInv.nil (t:PB):KInv t []:=⟨fun e he=>(by cases he),fun i e he=>(by simp at he),⟨[],rfl,List.nodup_nil,fun w hw=>(by cases hw)⟩⟩
theorem Z3A {t:PB} {w:Nat} (h:InS t w):w % 2=0∧w / 2<2 ^ t.n:=by
 have h0:w.testBit 0=false:=Bool.eq_false_iff.2 fun h0=>by
  have:=orSub.1 h 0 h0
  rw [Z2g] at this; cases this
 rw [Nat.testBit_zero] at h0
 have h1:¬ w % 2=1:=of_decide_eq_false h0
 have h2:w≤mkN t.n:=by rw [← h]; exact Nat.left_le_or
 unfold mkN at h2
 have:=Nat.two_pow_pos t.n
 omega
theorem KInv.len {t:PB} {ks:List KE} (h:KInv t ks):ks.length≤2 ^ t.n:=by
 obtain⟨ws,h1,h2,h3⟩:=h.ws
 have hnd:(ws.map (· / 2)).Nodup:=by
  rw [List.nodup_iff_pairwise_ne,List.pairwise_map]
  refine List.Pairwise.imp_of_mem (fun {a b} ha hb hab e=>hab ?_) (List.nodup_iff_pairwise_ne.1 h2)
  have x1:=Z3A (h3 a ha).1
  have x2:=Z3A (h3 b hb).1
  omega
 have:=Z23 (2 ^ t.n) _ hnd fun x hx=>by
  obtain⟨w,hw,rfl⟩:=List.mem_map.1 hx
  exact (Z3A (h3 w hw).1).2
 rw [List.length_map] at this
 omega
theorem KInv.c64 {t:PB} {ks:List KE} (h:KInv t ks):∀ c∈kcs ks,Ok64 c:=fun c hc=>by
 obtain⟨e,he,rfl⟩:=List.mem_map.1 hc
 exact (h.mem e he).1.lt (by decide)
theorem Z7I (ks:List KE) (e:KE):kcs (ks ++ [e])=kcs ks ++ [e.1]:=by simp [kcs]
theorem ZdI {a b:List Cu} {S:Nat} (h:soC a S=true):soC (a++b) S=true:=by
 have e:soC (a++b) S=(soC a S||soC b S):=List.any_append
 rw [e,h,Bool.true_or]
theorem KInv.add {t:PB} {ks:List KE} (h:KInv t ks) {e:KE} (hm:InM 62 e.1∧InM (mkN t.n) e.1∧emC e.1=false) (hcov:covL (kcs ks) e.1=false)
 (hh : (e.2.1 = -1 ∧ ∀ S, InS t S → hoC e.1 S = true → goodB t S = true ∧ reachB t S = true) ∨
   ∃ (r to:Nat) (x:RU) (e':KE),e.2=((r:Int),to)∧t.rs[r]?=some x∧ks[to]?=some e'∧∀ S,InS t S→hoC e.1 S=true→goodB t S=true∧stepR t x S=true∧hoC e'.1 (nextR x S)=true):KInv t (ks ++ [e]):=by
 obtain⟨ws,h1,h2,h3⟩:=h.ws
 refine⟨fun x hx=>(List.mem_append.1 hx).elim (h.mem x) fun hx=>by rw [List.mem_singleton] at hx; subst hx; exact hm,fun i x hx=>?_,?_⟩
 · by_cases hi : i < ks.length
   · rw [List.getElem?_append_left hi] at hx
     rcases h.how i x hx with h4|⟨r,to,y,e',h4,h5,h6,h7,h8⟩
     · exact .inl h4
     · exact .inr ⟨r,to,y,e',h4,h5,h6,by rw [List.getElem?_append_left (by omega)]; exact h7,h8⟩
   · have hi2 : i = ks.length := by
      have:=(List.getElem?_eq_some_iff.1 hx).1
      rw [List.length_append,List.length_singleton] at this
      omega
     subst hi2
     rw [List.getElem?_append_right (Nat.le_refl _),Nat.sub_self] at hx
     cases hx
     rcases hh with h4|⟨r,to,y,e',h4,h5,h7,h8⟩
     · exact .inl h4
     · have hlt := (List.getElem?_eq_some_iff.1 h7).1
       exact .inr ⟨r,to,y,e',h4,h5,hlt,by rw [List.getElem?_append_left hlt]; exact h7,h8⟩
 · obtain ⟨S, hS1, hS2⟩ : ∃ S, hoC e.1 S = true ∧ soC (kcs ks) S = false := by
    apply Classical.byContradiction
    intro hn
    have:covL (kcs ks) e.1=true:=(Z7A _ h.c64 _).2 fun S hS=>by
     cases hso:soC (kcs ks) S with
     | true=>rfl
     | false=>exact absurd ⟨S,hS,hso⟩ hn
    rw [hcov] at this; cases this
   have hn:∀ c∈kcs ks,InM (mkN t.n) c:=fun c hc=>by
    obtain⟨e,he,rfl⟩:=List.mem_map.1 hc
    exact (h.mem e he).2.1
   refine⟨ws ++ [S &&& mkN t.n],by rw [List.length_append,List.length_append,h1]; rfl,?_,fun w hw=>?_⟩
   · rw [List.nodup_append]
     refine⟨h2,by simp,fun a ha b hb hab=>?_⟩
     rw [List.mem_singleton] at hb
     subst hb
     subst hab
     have:=(h3 _ ha).2
     rw [Zg9 hn,hS2] at this; cases this
   · rw [Z7I]
     rcases List.mem_append.1 hw with hw|hw
     · exact⟨(h3 w hw).1,ZdI (h3 w hw).2⟩
     · rw [List.mem_singleton] at hw; subst hw
       refine⟨Zf2 t S,?_⟩
       rw [Z5f,ZdH hm.2.1,hS1,Bool.or_true]
inductive Able (t:PB):Nat→Prop
 | base {S:Nat} (hS:InS t S) (hg:goodB t S=true) (hr:reachB t S=true):Able t S
 | step {S:Nat} {x:RU} (hS:InS t S) (hg:goodB t S=true) (hx:x∈t.rs) (hs:stepR t x S=true) (h:Able t (nextR x S)):Able t S
def RunOk (t:PB):Nat→List Nat→Nat→Prop
 | S,[],E=>E=S
 | S,k :: p,E=>∃ x,t.rs[k]?=some x∧stepR t x S=true∧RunOk t (nextR x S) p E
theorem ZbX {t:PB} {x:RU} {S:Nat} (h:stepR t x S=true):goodB t (nextR x S)=true:=by
 unfold stepR at h
 rw [Bool.and_eq_true,Bool.and_eq_true] at h
 exact h.2.1
theorem Z4t {t:PB} (h:PbOk t) {x:RU} (hx:x∈t.rs) {S:Nat} (hS:InS t S):InS t (nextR x S):=ZaN (h.rs x hx).tg.1 (h.rs x hx).tg.2.1 h.n.2 hS
theorem Z5k {t:PB} (h:PbOk t):∀ (p:List Nat) {S E:Nat},InS t S→goodB t S=true→RunOk t S p E→reachB t E=true→Able t S
 | [],S,E,hS,hg,hr,he=>by cases hr; exact .base hS hg he
 | k :: p, S, E, hS, hg, ⟨x, hx, hs, hr⟩, he => by
   have hxm:=List.mem_of_getElem? hx
   exact .step hS hg hxm hs (Z5k h p (Z4t h hxm hS) (ZbX hs) hr he)
inductive PathK (ks:List KE):Nat→List Nat→Prop
 | stop {i:Nat} {e:KE} (h:ks[i]?=some e) (hr:e.2.1<0):PathK ks i []
 | step {i r to:Nat} {e:KE} {p:List Nat} (h:ks[i]?=some e) (hr:e.2=((r:Int),to)) (hp:PathK ks to p):PathK ks i (r :: p)
theorem ZaY {t:PB} (h:PbOk t) {ks:List KE} (hk:KInv t ks) {i:Nat} {p:List Nat} (hp:PathK ks i p):∀ {e:KE},ks[i]?=some e→∀ {S:Nat},InS t S→hoC e.1 S=true→goodB t S=true∧∃ E,RunOk t S p E∧reachB t E=true:=by
 induction hp with
 | stop he hr =>
   rename_i i e0
   intro e he' S hS hho
   rw [he] at he'; cases he'
   rcases hk.how _ _ he with h4|⟨r,to,x,e',h4,_⟩
   · exact⟨(h4.2 S hS hho).1,S,rfl,(h4.2 S hS hho).2⟩
   · rw [h4] at hr; simp only at hr; omega
 | step he hr hp ih =>
   rename_i i r to e0 p
   intro e he' S hS hho
   rw [he] at he'; cases he'
   rcases hk.how _ _ he with h4|⟨r',to',x,e',h4,h5,h6,h7,h8⟩
   · rw [hr] at h4; simp only at h4; omega
   · rw [hr] at h4
     obtain⟨h41,h42⟩:=Prod.mk.inj h4
     obtain rfl:r=r':=Int.ofNat.inj h41
     subst h42
     obtain⟨a1,a2,a3⟩:=h8 S hS hho
     have hxm:=List.mem_of_getElem? h5
     obtain⟨b1,E,b2,b3⟩:=ih h7 (Z4t h hxm hS) a3
     exact⟨a1,E,⟨x,h5,a2,b2⟩,b3⟩
theorem KInv.path {t:PB} {ks:List KE} (hk:KInv t ks):∀ (m i:Nat),i<m→i<ks.length→∃ p,PathK ks i p
 | 0,i,h,_=>absurd h (by omega)
 | m + 1, i, h, hi => by
   have he:=List.getElem?_eq_getElem hi
   rcases hk.how i _ he with h4|⟨r,to,x,e',h4,h5,h6,h7,h8⟩
   · exact⟨[],.stop he (by rw [h4.1]; decide)⟩
   · obtain ⟨p, hp⟩ := hk.path m to (by omega) (List.getElem?_eq_some_iff.1 h7).1
     exact⟨r :: p,.step he h4 hp⟩
theorem KInv.able {t:PB} (h:PbOk t) {ks:List KE} (hk:KInv t ks) {S:Nat} (hS:InS t S) (hso:soC (kcs ks) S=true):Able t S:=by
 obtain⟨c,hc,hho⟩:=List.any_eq_true.1 hso
 obtain⟨e,he,rfl⟩:=List.mem_map.1 hc
 obtain⟨i,hi,rfl⟩:=List.mem_iff_getElem.1 he
 obtain⟨p,hp⟩:=hk.path (i+1) i (Nat.lt_succ_self _) hi
 obtain⟨hg,E,h1,h2⟩:=ZaY h hk hp (List.getElem?_eq_getElem hi) hS hho
 exact Z5k h p hS hg h1 h2
def Exp1 (t:PB) (c:Cu) (x:RU) (ks:List KE):Prop:=∀ S,InS t S→goodB t S=true→stepR t x S=true→hoC c (nextR x S)=true→soC (kcs ks) S=true
def ExpA (t:PB) (c:Cu) (ks:List KE):Prop:=∀ x∈t.rs,Exp1 t c x ks
def TgtIn (t:PB) (ks:List KE):Prop:=∀ S,InS t S→goodB t S=true→reachB t S=true→soC (kcs ks) S=true
theorem Z7J {ks ks':List KE} (h:ks <+: ks') {S:Nat} (hs:soC (kcs ks) S=true):soC (kcs ks') S=true:=by
 obtain⟨u,rfl⟩:=h
 have:kcs (ks++u)=kcs ks++kcs u:=by simp [kcs]
 rw [this]
 exact ZdI hs
theorem Exp1.pre {t:PB} {c:Cu} {x:RU} {ks ks':List KE} (h:Exp1 t c x ks) (hp:ks <+: ks'):Exp1 t c x ks':=fun S a b d e=>Z7J hp (h S a b d e)
theorem ExpA.pre {t:PB} {c:Cu} {ks ks':List KE} (h:ExpA t c ks) (hp:ks <+: ks'):ExpA t c ks':=fun x hx=>(h x hx).pre hp
theorem TgtIn.pre {t:PB} {ks ks':List KE} (h:TgtIn t ks) (hp:ks <+: ks'):TgtIn t ks':=fun S a b c=>Z7J hp (h S a b c)
theorem Z8y {t:PB} (h:PbOk t) {ks:List KE} (ht:TgtIn t ks) (he:∀ e∈ks,ExpA t e.1 ks) {S:Nat} (ha:Able t S):soC (kcs ks) S=true:=by
 induction ha with
 | base hS hg hr=>exact ht _ hS hg hr
 | step hS hg hx hs _ ih =>
   obtain⟨c,hc,hho⟩:=List.any_eq_true.1 ih
   obtain⟨e,hem,rfl⟩:=List.mem_map.1 hc
   exact he e hem _ hx _ hS hg hs hho
theorem ZgG {t:PB} {ks:List KE} (hk:KInv t ks) {c:Cu} (h:covL (kcs ks) c=true) {S:Nat} (hs:hoC c S=true):soC (kcs ks) S=true:=(Z7A _ hk.c64 _).1 h S hs
inductive Rch (t:PB):Nat→Prop
 | base:Rch t t.st
 | step {S:Nat} {x:RU} (h:Rch t S) (hx:x∈t.rs) (hs:stepR t x S=true):Rch t (nextR x S)
theorem Rch.inS {t:PB} (h:PbOk t) {S:Nat} (hr:Rch t S):InS t S:=by
 induction hr with
 | base=>exact h.st
 | step _ hx _ ih=>exact Z4t h hx ih
theorem PbOk.sgood {t:PB} (h:PbOk t):goodB t t.st=true:=by unfold goodB; rw [h.sg]; rfl
theorem Zf3 {t:PB} {S:Nat} (ha:Able t S):∃ p E,RunOk t S p E∧reachB t E=true:=by
 induction ha with
 | base hS hg hr=>exact⟨[],_,rfl,hr⟩
 | step hS hg hx hs _ ih =>
   obtain⟨p,E,h1,h2⟩:=ih
   obtain⟨k,hk,rfl⟩:=List.mem_iff_getElem.1 hx
   exact⟨k :: p,E,⟨_,List.getElem?_eq_getElem hk,hs,h1⟩,h2⟩
theorem Z9V {t:PB}:∀ (p:List Nat) {S E:Nat},Rch t S→RunOk t S p E→Rch t E
 | [],S,E,h,hr=>by cases hr; exact h
 | k :: p,S,E,h,⟨x,hx,hs,hr⟩=>Z9V p (.step h (List.mem_of_getElem? hx) hs) hr
theorem ZaZ {t:PB}:∀ (p:List Nat) {S E:Nat} {k:Nat} {x:RU},RunOk t S p E→t.rs[k]?=some x→stepR t x E=true→RunOk t S (p ++ [k]) (nextR x E)
 | [],S,E,k,x,hr,hx,hs=>by cases hr; exact⟨x,hx,hs,rfl⟩
 | j :: p,S,E,k,x,⟨y,hy,h1,h2⟩,hx,hs=>⟨y,hy,h1,ZaZ p h2 hx hs⟩
theorem Zga {t:PB} {S:Nat} (h:Rch t S):∃ p,RunOk t t.st p S:=by
 induction h with
 | base=>exact⟨[],rfl⟩
 | step _ hx hs ih =>
   obtain⟨p,hp⟩:=ih
   obtain⟨k,hk,rfl⟩:=List.mem_iff_getElem.1 hx
   exact⟨p ++ [k],ZaZ p hp (List.getElem?_eq_getElem hk) hs⟩
theorem able_iff {t:PB} (h:PbOk t):Able t t.st↔∃ E,Rch t E∧reachB t E=true:=by
 constructor
 · intro ha
   obtain⟨p,E,h1,h2⟩:=Zf3 ha
   exact⟨E,Z9V p .base h1,h2⟩
 · rintro ⟨E, h1, h2⟩
   obtain⟨p,hp⟩:=Zga h1
   exact Z5k h p h.st h.sgood hp h2
structure NotFound (t:PB) (ks:List KE):Prop where
 inv:KInv t ks
 tgt:TgtIn t ks
 exp:∀ e∈ks,ExpA t e.1 ks
 no:soC (kcs ks) t.st=false
theorem NotFound.not_able {t:PB} (h:PbOk t) {ks:List KE} (hn:NotFound t ks):¬ Able t t.st:=fun ha=>by
 have:=Z8y h hn.tgt hn.exp ha
 rw [hn.no] at this; cases this
theorem NotFound.able_iff {t:PB} (h:PbOk t) {ks:List KE} (hn:NotFound t ks) {S:Nat} (hS:InS t S):soC (kcs ks) S=true↔Able t S:=⟨hn.inv.able h hS,Z8y h hn.tgt hn.exp⟩
def PlanOk (t:PB) (p:List Nat):Prop:=∃ E,RunOk t t.st p E∧reachB t E=true
theorem PlanOk.able {t:PB} (h:PbOk t) {p:List Nat} (hp:PlanOk t p):Able t t.st:=by
 obtain⟨E,h1,h2⟩:=hp
 exact Z5k h p h.st h.sgood h1 h2
theorem KInv.plan {t:PB} (h:PbOk t) {ks:List KE} (hk:KInv t ks) {i:Nat} {e:KE} (he:ks[i]?=some e) (hs:hoC e.1 t.st=true) {p:List Nat} (hp:PathK ks i p):PlanOk t p:=by
 obtain⟨_,E,h1,h2⟩:=ZaY h hk hp he h.st hs
 exact⟨E,h1,h2⟩
theorem Z9W {t:PB} {S E:Nat} (h:RunOk t S [] E):E=S:=h
theorem Zgb {t:PB} {l:List Nat} (hn:l.Nodup) (hl:∀ s∈l,InS t s):l.length≤2 ^ t.n:=by
 have hnd:(l.map (· / 2)).Nodup:=by
  rw [List.nodup_iff_pairwise_ne,List.pairwise_map]
  refine List.Pairwise.imp_of_mem (fun {a b} ha hb hab e=>hab ?_) (List.nodup_iff_pairwise_ne.1 hn)
  have x1:=Z3A (hl a ha)
  have x2:=Z3A (hl b hb)
  omega
 have:=Z23 (2 ^ t.n) _ hnd fun x hx=>by
  obtain⟨w,hw,rfl⟩:=List.mem_map.1 hx
  exact (Z3A (hl w hw)).2
 rwa [List.length_map] at this
theorem ZbY {l:List Nat} {a:Nat} (h:l.Nodup) (ha:a ∉ l):(l ++ [a]).Nodup:=by
 rw [List.nodup_append]
 exact⟨h,by simp,fun x hx y hy e=>by rw [List.mem_singleton] at hy; subst hy; subst e; exact ha hx⟩
def inC1 (k:Nat):List PV := [.val (.int .i64 (k:Int))]
def inL (l:List Nat):List (List PV):=l.map inC1
theorem Z3B (l:List Nat):pureLL (inL l):=Zg (enc:=inC1) (fun _=>⟨trivial,trivial⟩) l
theorem Z9X (l:List Nat):(inL l).length=l.length:=by simp [inL]
theorem Zf4 (l:List Nat) (k:Nat):inL l ++ [inC1 k]=inL (l ++ [k]):=by simp [inL]
def addN (out:List Nat) (s:Nat):List Nat:=if s∈out then out else out ++ [s]
theorem Zf5 (out:List Nat) (s:Nat):s∈addN out s:=by unfold addN; split<;>simp_all
theorem Zf6 (out:List Nat) (s:Nat):out <+: addN out s:=by
 unfold addN
 split
 · exact List.prefix_refl _
 · exact List.prefix_append _ _
theorem Zgc {out:List Nat} (h:out.Nodup) (s:Nat):(addN out s).Nodup:=by
 unfold addN
 split
 · exact h
 · rename_i hs; exact ZbY h hs
theorem Zf7 {out:List Nat} {p:Nat→Prop} (h:∀ x∈out,p x) {s:Nat} (hs:p s):∀ x∈addN out s,p x:=fun x hx=>by
 unfold addN at hx
 split at hx
 · exact h x hx
 · rcases List.mem_append.1 hx with hx | hx
   · exact h x hx
   · rw [List.mem_singleton] at hx; subst hx; exact hs
structure AllI (t:PB) (at':Nat) (out:List Nat):Prop where
 nd:out.Nodup
 rch:∀ s∈out,Rch t s
 st:t.st∈out
 le:at'≤out.length
 cl:∀ i S,i<at'→out[i]?=some S→∀ x∈t.rs,stepR t x S=true→nextR x S∈out
structure AllK (t:PB) (at':Nat) (S k:Nat) (out:List Nat):Prop where
 i:AllI t at' out
 s:out[at']?=some S
 ok:∀ j x,j<k→t.rs[j]?=some x→stepR t x S=true→nextR x S∈out
theorem AllI.base (t:PB):AllI t 0 [t.st]:=⟨by simp,fun s hs=>by rw [List.mem_singleton] at hs; subst hs; exact .base,by simp,Nat.zero_le _,fun i S hi=>absurd hi (Nat.not_lt_zero i)⟩
theorem AllI.len {t:PB} (h:PbOk t) {a:Nat} {out:List Nat} (hi:AllI t a out):out.length≤2 ^ t.n:=Zgb hi.nd fun s hs=>(hi.rch s hs).inS h
theorem AllI.begin {t:PB} {a:Nat} {out:List Nat} (hi:AllI t a out) {S:Nat} (hs:out[a]?=some S):AllK t a S 0 out:=⟨hi,hs,fun j x hj=>absurd hj (Nat.not_lt_zero j)⟩
theorem Z7K {α:Type} {out out':List α} (h:out <+: out') {i:Nat} {S:α} (hs:out[i]?=some S):out'[i]?=some S:=by
 obtain⟨u,rfl⟩:=h
 rw [List.getElem?_append_left (List.getElem?_eq_some_iff.1 hs).1]; exact hs
theorem pre_get' {α:Type} {out out':List α} (h:out <+: out') {i:Nat} {S:α} (hs:out'[i]?=some S) (hi:i<out.length):out[i]?=some S:=by
 obtain⟨u,rfl⟩:=h
 rwa [List.getElem?_append_left hi] at hs
theorem AllK.skip {t:PB} {a S k:Nat} {out:List Nat} (h:AllK t a S k out) {x:RU} (hx:t.rs[k]?=some x) (hn:stepR t x S=false):AllK t a S (k+1) out :=
 ⟨h.i,h.s,fun j y hj hy hs=>by
  by_cases e:j<k
  · exact h.ok j y e hy hs
  · obtain rfl : j = k := by omega
    rw [hx] at hy; cases hy
    rw [hn] at hs; cases hs⟩
theorem AllK.add {t:PB} {a S k:Nat} {out:List Nat} (h:AllK t a S k out) {x:RU} (hx:t.rs[k]?=some x) (hs:stepR t x S=true):AllK t a S (k+1) (addN out (nextR x S)):=by
 have hp:=Zf6 out (nextR x S)
 have hS:Rch t S:=h.i.rch S (List.mem_of_getElem? h.s)
 refine⟨⟨Zgc h.i.nd _,Zf7 h.i.rch (.step hS (List.mem_of_getElem? hx) hs),hp.subset h.i.st,Nat.le_trans h.i.le hp.length_le,fun i T hi hT y hy hs'=>?_⟩,Z7K hp h.s,fun j y hj hy hs'=>?_⟩
 · exact hp.subset (h.i.cl i T hi (pre_get' hp hT (Nat.lt_of_lt_of_le hi h.i.le)) y hy hs')
 · by_cases e : j < k
   · exact hp.subset (h.ok j y e hy hs')
   · obtain rfl : j = k := by omega
     rw [hx] at hy; cases hy
     exact Zf5 _ _
theorem AllK.done {t:PB} {a S k:Nat} {out:List Nat} (h:AllK t a S k out) (hk:t.rs.length≤k):AllI t (a+1) out :=
 ⟨h.i.nd,h.i.rch,h.i.st,(List.getElem?_eq_some_iff.1 h.s).1,fun i T hi hT y hy hs=>by
  by_cases e:i<a
  · exact h.i.cl i T e hT y hy hs
  · obtain rfl : i = a := by omega
    rw [h.s] at hT; cases hT
    obtain⟨j,hj,rfl⟩:=List.mem_iff_getElem.1 hy
    exact h.ok j _ (by omega) (List.getElem?_eq_getElem hj) hs⟩
theorem AllI.all {t:PB} {out:List Nat} (h:AllI t out.length out) {S:Nat} (hr:Rch t S):S∈out:=by
 induction hr with
 | base=>exact h.st
 | step _ hx hs ih =>
   obtain⟨i,hi,rfl⟩:=List.mem_iff_getElem.1 ih
   exact h.cl i _ hi (List.getElem?_eq_getElem hi) _ hx hs
theorem AllI.able {t:PB} (h:PbOk t) {out:List Nat} (hi:AllI t out.length out):out.any (reachB t)=true↔Able t t.st:=by
 rw [able_iff h,List.any_eq_true]
 exact exists_congr fun S=>and_congr_left fun _=>⟨hi.rch S,hi.all⟩
end Go.Proofs.YthgklpbcmbmmcaaGreatDoor
namespace Go.Proofs.YthgklpbcmbmmcaaGreatDoor
open Go.RowKit
attribute [local irreducible] aw opsK dK
end Go.Proofs.YthgklpbcmbmmcaaGreatDoor
