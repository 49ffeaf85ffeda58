/-
  Merged from the texts that this claim's theorem needs, part 6 of 7. No statement of the seat is proved here.
-/
import Derived.Test.YtmnbbggaoembeaaGreatDoorMq4
set_option linter.unusedSimpArgs false
set_option linter.unusedVariables false
set_option linter.unusedSectionVars false
set_option maxRecDepth 100000
set_option maxHeartbeats 16000000
namespace Go.Proofs.YtmnbbggaoembeaaGreatDoor
section
open Go.RowKit
attribute [local irreducible] aw opsK dK
theorem Z3M (l:List Pr) (S:List Nat) (k:Nat) (h1:1<=k) (hk:k<64):Spec Tryz.prog 139 [hierP l S,.val (.int .i64 (k:Int))] (· = setN (sen l k)):=by
 have h2:=ZaZ l S (k:Int);rw [if_pos ⟨by omega,by omega⟩] at h2;have h3:=Z3E (abv l k) (Y03 (Z32 (Z6o l k)) (by decide)) (k:Int);rw [withN,if_pos ⟨by omega,by omega⟩] at h3;refine Yp ok139 fun C hC=>?_;refine go ?_;refine Qe (Z6M k h1 hk) ⟨Yt,Yt⟩ ?_;refine go ?_;refine Qe h2 ⟨Z1c l S,Yt,Yt⟩ ?_;refine go ?_;refine Qe h3 ⟨Z1 _,Yt,Yt⟩ ?_;refine go ?_;exact Z7 rfl (Z1 _) rfl
theorem Z4B:∀ l:List Cu,lowLL (l.map cuC)=l.map cuC
 | []=>rfl
 | c :: l => by
   show lowL (cuC c) :: lowLL (l.map cuC)=_;rw [Zfu,Z4B l]; rfl
def splT (l:List Cu) (c:Cu) (i:Nat):List Cu:=(l.take i).foldl splS (if emC c then [] else [c])
theorem Zfv (l:List Cu) (c:Cu) {i:Nat} (hi:i<l.length):splT l c (i+1)=splS (splT l c i) l[i]:=by
 unfold splT;rw [List.take_add_one,Y0c hi,List.foldl_append]; rfl
theorem Zfw {m:Nat} (hm:m<64) {l:List Cu} {c:Cu} (hl:∀ b∈l,InM m b) (hc:InM m c) (i:Nat):Dis (splT l c i)/\∀ c'∈splT l c i,InM m c':=by
 refine Zfo (N:=64) hm (by omega) _ (fun b hb=>hl b (List.mem_of_mem_take hb)) _ ?_ ?_
 . split
   . exact⟨(fun c hc=>by cases hc),List.Pairwise.nil⟩
   . rename_i h;exact⟨fun c hc=>by rw [Y0g] at hc; subst hc; simpa using h,List.pairwise_singleton ..⟩
 . intro c' hc'
   split at hc'
   . cases hc'
   . rw [Y0g] at hc'; subst hc'; exact hc
def splI (out:List Cu) (b:Cu) (j:Nat):List Cu:=splS (out.take j) b
theorem Zfx (out:List Cu) (b:Cu) {j:Nat} (hj:j<out.length):splI out b (j+1)=splI out b j++minC out[j] b:=by
 unfold splI splS;rw [List.take_add_one,Y0c hj,List.flatMap_append];simp
theorem Zhm {out:List Cu} {b:Cu} {m:Nat} (hm:m<64) (h:Dis out/\∀ c∈out,InM m c) (hb:InM m b) (j:Nat):(splI out b j).length<=64:=by
 have h1:Dis (out.take j):=⟨fun c hc=>h.1.1 c (List.mem_of_mem_take hc),h.1.2.sublist (List.take_sublist _ _)⟩
 exact Zb8 (ZcA h1 (hb.lt (by omega))) (m:=m) (Zb7 (fun c hc=>h.2 c (List.mem_of_mem_take hc)) hb) hm
theorem ZdN (l:List Cu) (fl:Bool) (c:Cu) (m:Nat) (hm:m<64) (hl:∀ b∈l,InM m b) (hc:InM m c) (hlen:l.length<=100000):Spec Tryz.prog 142 [cuP c,.vec (l.map cuC) fl] (· = .tup [.vec ((splL l c).map cuC) false,.val (.int .i64 0)]):=by
 have hnl:(l.map cuC).length=l.length:=by simp
 have hlp:∀ (l:List Cu) D,innLL D (l.map cuC):=fun i D=>Zb (fun _ h=>h.elim) _ (Z2 _);have hc64:=hc.lt (by omega);refine Yp ok142 fun C hC=>?_;refine Zs ?_;refine Zc ?_;refine Z5 rfl rfl rfl ?_
 iterate 7 (first|refine st ?_|(apply B<;>intro hb<;>try cases hb))
 refine ZeP hC (X:=Bool) (fun _=>True) 0 (fun z => [(1,.vec (l.map cuC) fl),(6,.vec ((splT l c 0).map cuC) z)]) (fun _=>[]) (Y0l _) ?_ fun z _=>?_
 . refine go ?_;refine Qe (Z18 c hc64) ⟨Zu c,Yt⟩ ?_;unfold splT;rw [List.take_zero,List.foldl_nil];cases he:emC c
   . refine gd 18 ⟨?_⟩;refine Z5 (Z9d (l := []) (m := [cuC c]) rfl rfl (fun c hc=>by cases hc) (fun q hq=>by rw [Y0g] at hq; subst hq; rfl) (by show (0+1)*48<=_; decide)) rfl rfl ?_;refine go ?_;exact⟨_,Yt,⟨⟨rfl,hlp _ _⟩,⟨rfl,hlp [c] _⟩,Yt⟩,Yt⟩
   . refine go ?_;exact⟨_,Yt,⟨⟨rfl,hlp _ _⟩,⟨rfl,Yt⟩,Yt⟩,Yt⟩
 . have hloop := Zfw hm hl hc;refine go ?_;refine Zn hC (fun (x:Nat×Bool)=>x.1<=l.length) (fun x=>l.length-x.1) 0 (fun x => [(6,.vec ((splT l c x.1).map cuC) x.2),(19,.vec (l.map cuC) fl),(20,.val (.int .i64 (l.length:Int))),(21,.val (.int .i64 (x.1:Int)))]) (fun _=>[]) (Y0m _) (0,z) (Y0l _)
    ⟨⟨rfl,hlp _ _⟩,⟨rfl,hlp _ _⟩,⟨by rw [<- hnl]; rfl,Yt⟩,⟨rfl,Yt⟩,Yt⟩ Yt ?_
   rintro⟨i,z⟩ hi;dsimp only at hi ⊢;have hinc:IntKind.i64.wrap ((i:Int)+1)=((i+1:Nat):Int):=Y0v _ ⟨by omega,by omega⟩
   iterate 2 (first|refine st ?_|(apply B<;>intro hb<;>try cases hb))
   refine Zq rfl rfl rfl (fun hb=>?_) (fun hb=>?_)
   . have hil : i < l.length := by have := Y0u hb; omega
     clear hb;have hsucc:=Zfv l c hil;obtain⟨hD,hI⟩:=hloop i;generalize splT l c i=out at hsucc hD hI ⊢;have hb:=hl l[i] (Y0j hil);have hb64:=hb.lt (by omega);have hol:out.length<=64:=Zb8 hD hI hm;have hsub:=Zhm (out:=out) hm ⟨hD,hI⟩ hb;have hnl2:(out.map cuC).length=out.length:=by simp
     refine go ?_;refine Qo (Zm (xs:=l) rfl rfl i rfl hil rfl) ?_
     repeat' (first|refine Zf (ZG (k:=9) rfl 2 (by decide)) ?_|(first|refine st ?_|(apply B<;>intro hb<;>try cases hb)))
     refine ZF hC (fun (j:Nat)=>j<=out.length) (fun j=>out.length-j) 2 (fun j => [(8,.ptr 0 0 0),(9,.own 1),(19,.vec (l.map cuC) fl),(20,.val (.int .i64 (l.length:Int))),(21,Yv i),(25,.vec (out.map cuC) z),(26,.val (.int .i64 (out.length:Int))),(27,Yv j)])
      (fun j => [(0,⟨2,[cuC l[i]]⟩),(1,⟨2,(splI out l[i] j).map cuC⟩)]) (by decide) 0 (Y0l _) (fun i=>i) (fun _ _=>rfl) Zt
      ⟨Qt 0 0 0,⟨_,rfl,.own 1 (by decide)⟩,Qp (Z2 _),Qp Yt,Qp Yt,Qp (Z2 _),⟨_,by rw [<- hnl2]; rfl,.pure _ Yt⟩,Qp Yt,Yt⟩ ⟨Qs ⟨Ze _,Yt⟩,Qs Yt,Yt⟩ ?_
     intro j hj;have hinc2:IntKind.i64.wrap ((j:Int)+1)=((j+1:Nat):Int):=Y0v _ ⟨by omega,by omega⟩
     iterate 2 (first|refine st ?_|(apply B<;>intro hb<;>try cases hb))
     refine Zq rfl rfl rfl (fun hb=>?_) (fun hb=>?_)
     . have hjl : j < out.length := by have := Y0u hb; omega
       clear hb;have hs2:=Zfx out l[i] hjl;have hx:=(hI _ (Y0j hjl)).lt (by omega);have hml:=Zcv out[j] l[i] hx;have hsl:=hsub j;refine go ?_;refine Qo (Zm (xs:=out) rfl rfl j rfl hjl rfl) ?_;refine go ?_;refine Qe (Z7N out[j] l[i] hx hb64) ⟨Zu _,Zu _,Yt⟩ ?_
       refine ZD (Zx (k:=1) (m:=(minC out[j] l[i]).map cuC) (fl:=false) rfl rfl rfl (fun q hq=>by obtain⟨x,_,rfl⟩:=Y0i.1 hq; rfl) rfl (by
        show (((splI out l[i] j).map cuC).length+((minC out[j] l[i]).map cuC).length)*48<=_
        rw [Y0f,Y0f];omega)) rfl rfl ?_
       refine go ?_
       refine⟨j+1,mv 1 3,hjl,by omega,fun i hi=>absurd hi (Nat.not_lt_zero i),Zy rfl,
        ⟨Qt 0 0 0,Qw 1,Qp (Z2 _),Qp Yt,Qp Yt,Qp (Z2 _),Qp Yt,⟨_,by show some _=some _; rw [hinc2],.pure _ Yt⟩,Yt⟩,
        ⟨Qs ⟨Ze _,Yt⟩,⟨by decide,_,rfl,?_⟩,Yt⟩⟩
       show RenB _ _ ⟨2,(splI out l[i] j).map cuC++(minC out[j] l[i]).map cuC⟩ ⟨2,(splI out l[i] (j+1)).map cuC⟩;rw [<- Y0r,<- hs2];exact .same _ (Z2 _)
     . have hjl : j = out.length := by have := of_decide_eq_false hb; omega
       subst hjl;clear hb;have hend:splI out l[i] out.length=splT l c (i+1):=by rw [hsucc]; unfold splI; rw [Y0q]
       have hle:=hsub out.length;rw [hend] at hle ⊢
       repeat' (first|refine Zf (Zp (k:=9) rfl rfl (Z2 _)) ?_|refine Zju 39 ?_|(first|refine st ?_|(apply B<;>intro hb<;>try cases hb)))
       refine At.mk ?_;refine Qo (Z4 (v:=false) rfl (by simp;omega)) ?_;refine go ?_;exact⟨(i+1,false),by show i+1<=_; omega,by show _-(i+1)<_-i; omega,⟨⟨rfl,hlp _ _⟩,⟨rfl,hlp _ _⟩,⟨rfl,Yt⟩,⟨by show some _=some _; rw [hinc],Yt⟩,Yt⟩,Yt⟩
   . have hil : i = l.length := by have := of_decide_eq_false hb; omega
     subst hil;clear hb;refine go ?_;have he:splT l c l.length=splL l c:=by unfold splT splL; rw [Y0q]
     rw [he];refine Z1a rfl ⟨?_,Yt,Yt⟩ ?_
     . show pureLL (lowLL ((splL l c).map cuC));rw [Z4B]; exact Z2 _
     . show PV.tup [.vec (lowLL ((splL l c).map cuC)) false, _] = _;rw [Z4B]; rfl
theorem Z36 (k:Nat) (h1:1<=k) (h2:k<=64):Spec Tryz.prog 73 [.val (.int .i64 (k:Int))] (· = setN (2 ^ k-1)):=by
 refine Yp ok73 fun C hC=>?_;have hq:IntKind.i64.wrap (((k+63:Nat):Int).tdiv 64)=((1:Nat):Int):=by
  rw [IntWalk.i64_quo _ _ ⟨by omega,by omega,by omega⟩]; omega
 refine gd 6 ⟨?_⟩;refine Zg rfl rfl rfl (v:=(k:Int)) (by split<;>omega) ?_;refine Zg rfl rfl rfl (v:=(k:Int)) (by split<;>omega) ?_;refine gd 9 ⟨?_⟩;refine Zg rfl rfl rfl (show IntKind.i64.wrap ((k:Int)+63)=((k+63:Nat):Int) from Y0v _ ⟨by omega,by omega⟩) ?_;refine gd 10 ⟨?_⟩;refine Zg rfl rfl rfl hq ?_;refine go ?_;refine Z1F 1 ?_;refine gd 22 ⟨?_⟩;by_cases hk:k=64
 . subst hk
   repeat' (first|refine Zf (Zp (k:=33) rfl rfl (Z11 rfl)) ?_|(first|refine st ?_|(apply B<;>intro hb<;>try cases hb)))
   exact Z7 rfl (Z2z rfl) (by rw [Z3g (by decide) (by decide)]; rfl)
 . have hr : (k : Int).tmod 64 = ((k : Nat) : Int) := by rw [Int.tmod_eq_emod_of_nonneg (by omega)]; omega
   refine Zg rfl rfl rfl hr ?_;refine Qo (Z4 (v:=true) rfl (by simp;omega)) ?_;refine gd 29 ⟨?_⟩;refine Zg rfl rfl rfl hr ?_
   refine Qo (ZeF rfl rfl (by omega) (v:=((2 ^ k:Nat):Int)) (by
    rw [show min ((k:Int)).toNat IntKind.u64.bits=k by simp [IntKind.bits]; omega];have hp:=ZI (show k<64 by omega);rw [Int.one_mul,show (2:Int) ^ k=((2 ^ k:Nat):Int) by simp]
    exact Y0x _ ⟨Int.natCast_nonneg _,Int.ofNat_le.2 (show _<=18446744073709551615 by omega)⟩)) ?_
   refine Zg rfl rfl rfl (v:=((2 ^ k-1:Nat):Int)) (by
    have hp:=ZI (show k<64 by omega);have:=Nat.two_pow_pos k;rw [show ((2 ^ k:Nat):Int)-1=((2 ^ k-1:Nat):Int) by omega]
    exact Y0x _ ⟨Int.natCast_nonneg _,Int.ofNat_le.2 (show _<=18446744073709551615 by omega)⟩) ?_
   have hp:=ZI (show k<64 by omega);have hp2:2<=2 ^ k:=Nat.pow_le_pow_right (n:=2) (by decide) h1
   repeat' (first|refine Zf (Zp (k:=33) rfl rfl (Z11 rfl)) ?_|(first|refine st ?_|(apply B<;>intro hb<;>try cases hb)))
   exact Z7 rfl (Z2z rfl) (by rw [Z3g (by omega) (by omega)]; rfl)
theorem Z8G {N M:Nat} (hN:N<18446744073709551616):N &&& M<18446744073709551616:=Y02 Nat.and_le_left hN
theorem Zhn (a b:Nat) (ha:a<18446744073709551616) (hb:b<18446744073709551616):bits .and .u64 (a:Int) (b:Int)=((a &&& b:Nat):Int):=by
 have h1:(BitVec.ofInt 64 (a:Int)).toNat=a:=by rw [BitVec.ofInt_natCast,BitVec.toNat_ofNat]; exact Nat.mod_eq_of_lt (by omega)
 have h2:(BitVec.ofInt 64 (b:Int)).toNat=b:=by rw [BitVec.ofInt_natCast,BitVec.toNat_ofNat]; exact Nat.mod_eq_of_lt (by omega)
 show IntKind.u64.wrap ((BitVec.ofInt 64 (a:Int) &&& BitVec.ofInt 64 (b:Int)).toNat:Int)=_;rw [BitVec.toNat_and,h1,h2];have:a &&& b<=a:=Nat.and_le_left;exact Y0x _ ⟨by omega,by omega⟩
theorem Z6N (N M:Nat) (hN:N<18446744073709551616) (hM:M<18446744073709551616):Spec Tryz.prog 140 [setN N,setN M] (· = setN (N &&& M)):=by
 have hlt:=Z8G (M:=M) hN;rcases Z1l hN with⟨rfl,e1⟩|⟨h1,e1⟩<;>rcases Z1l hM with⟨rfl,e2⟩|⟨h2,e2⟩<;>rw [e1]<;>(try rw [e2])<;>clear e1 e2
 all_goals
  refine Yp ok140 fun C hC=>?_;refine Zs ?_;refine Zc ?_;refine Z5 rfl rfl rfl ?_;refine Z5 rfl rfl rfl ?_;refine go ?_;refine Z1F 1 ?_
 case inr.inr =>
  refine gd 32 ⟨?_⟩;refine Qr (ZR rfl (Zhn N M hN hM)) ?_
  repeat' (first|refine Zf (Zp (k:=35) rfl rfl (Z11 rfl)) ?_|(first|refine st ?_|(apply B<;>intro hb<;>try cases hb)))
  refine ZT rfl rfl (Z4O [N &&& M]) (Z1h rfl) rfl fun r hr=>?_;have hw:Words [N &&& M]:=fun x hx=>by rw [Y0g.1 hx]; exact hlt
  have e1:=hr.set hw;have e2:ofW [N &&& M]=N &&& M:=by simp [ofW]
  rw [e2] at e1;subst e1;refine go ?_;exact Z7 rfl (Z1 _) rfl
 all_goals
  repeat' (first|refine Zf (Zp (k:=35) rfl rfl (Z11 rfl)) ?_|(first|refine st ?_|(apply B<;>intro hb<;>try cases hb)))
  refine ZT rfl rfl (Z4O []) (Z1h rfl) rfl fun r hr=>?_;have e1:=hr.set (fun x hx=>by cases hx);subst e1;refine go ?_;exact Z7 rfl (Z1 _) (show setN (ofW [])=_ by simp [ofW])
theorem Zkp {l:List Pr} {m:Nat} (hl:∀ p∈l,p.1<=m/\p.2<=m) {a b:Nat} (h:Up l a b):a<=m/\b<=m:=by
 induction h with
 | one h=>exact hl _ h
 | more _ k ih=>exact⟨ih.1,(hl _ k).2⟩
theorem bit62 {i:Nat} (h1:1<=i) (h2:i<=5):(62:Nat).testBit i=true:=by
 have:i=1 \/ i=2 \/ i=3 \/ i=4 \/ i=5:=by omega
 rcases this with rfl|rfl|rfl|rfl|rfl<;>rfl
theorem ZcC {i:Nat} (h:(62:Nat).testBit i=true):1<=i/\i<=5:=by
 have:=Z4S (N:=62) (by decide) h;have hi:i<6:=Nat.lt_of_not_le fun h6=>by
  rw [Nat.testBit_lt_two_pow (show 62<2 ^ i from Nat.lt_of_lt_of_le (by decide) (Nat.pow_le_pow_right (by decide) h6))] at h; cases h
 refine⟨Nat.one_le_iff_ne_zero.2 fun h0=>?_,by omega⟩;subst h0; cases h
theorem Zi7 {t:PB} (h:PbOk t) {r:Nat} (hr:r<=5):(sen t.l r &&& mkN t.n) ||| 62=62:=orSub.2 fun i hi=>by
 rw [Y0z,Y0k,Z2k,Y0k,Y0n,Y0n] at hi;refine bit62 hi.2.1 ?_;rcases (Z4A h.good.small r i).1 hi.1 with h1|h1
 . exact (Zkp (m:=5) (fun p hp=>(h.lk p hp).2.2) h1).1
 . omega
def One62 (N:Nat) (l:List Cu):Prop:=∀ c∈l,c.1 ||| 62=62/\c.2=N
theorem Zba {N:Nat} {l:List Cu} (h:One62 N l) (hn:l.Nodup):l.length<=64:=by
 have hnd:(l.map (·.1)).Nodup:=by
  rw [List.nodup_iff_pairwise_ne,List.pairwise_map];refine List.Pairwise.imp_of_mem (fun {a b} ha hb hab e=>hab ?_) (List.nodup_iff_pairwise_ne.1 hn);exact Prod.ext e ((h a ha).2.trans (h b hb).2.symm)
 have:=Z2o 64 _ hnd fun x hx=>by
  obtain⟨c,hc,rfl⟩:=Y0i.1 hx;have:c.1<=62:=by have:=(h c hc).1; rw [<- this]; exact Nat.left_le_or
  omega
 rwa [Y0f] at this
theorem Zbb {t:PB} (h:PbOk t) {r:Nat} (hr:r<=5) {N:Nat} {x:List Cu} (hx:One62 N x):One62 N (exX t.l t.n r x):=fun c hc=>by
 obtain⟨y,hy,hc⟩:=List.mem_flatMap.1 hc;obtain⟨a,ha,rfl⟩:=Y0i.1 hc;refine⟨orSub.2 fun i hi=>?_,(hx y hy).2⟩;rw [Y00,Bool.or_eq_true,Nat.testBit_two_pow,Y0n] at hi;rcases hi with hi|rfl
 . exact orSub.1 (hx y hy).1 i hi
 . exact orSub.1 (Zi7 h hr) _ ((Z1k (Z3L h.n.2)).1 ha)
theorem ZcD {N:Nat} {l:List Cu} (h:One62 N l):One62 N (simL l):=fun c hc=>h c (Z2L hc).1
theorem ZcE {N:Nat} (hN:N<18446744073709551616) {l:List Cu} (h:One62 N l):∀ c∈l,Ok64 c:=fun c hc=>by
 have:c.1<=62:=by have:=(h c hc).1; rw [<- this]; exact Nat.left_le_or
 exact⟨by omega,by rw [(h c hc).2]; exact hN⟩
theorem Zfy (l:List Pr) {n:Nat} (hn:n<=63) (rs:List Nat):exN l n rs<18446744073709551616:=by
 have:∀ (rs:List Nat) (o:Nat),o<18446744073709551616->rs.foldl (fun o r=>o ||| (sen l r &&& mkN n)) o<18446744073709551616:=by
  intro rs
  induction rs with
  | nil=>exact fun o h=>h
  | cons r rs ih=>exact fun o h=>ih _ (Z24 h (Z3L hn))
 exact this _ 0 (by decide)
theorem ZjI {t:PB} (h:PbOk t) {rs:List Nat} (hr:∀ r∈rs,r<=5):exN t.l t.n rs ||| 62=62:=orSub.2 fun i hi=>by
 rcases (Z6L t.l t.n i rs 0).1 hi with h1|⟨r,hr',h1,h2⟩
 . simp at h1
 . exact orSub.1 (Zi7 h (hr r hr')) i (by rw [Y0z,h1,h2]; rfl)
theorem Zbc {t:PB} (h:PbOk t) {N:Nat} (hN:N<18446744073709551616):∀ (rs:List Nat),(∀ r∈rs,r<=5)->∀ x,One62 N x->x.Nodup->One62 N (exF t.l t.n rs x)/\(exF t.l t.n rs x).Nodup
 | [],_,x,h1,h2=>⟨h1,h2⟩
 | r :: rs,hr,x,h1,h2=>Zbc h hN rs (fun a ha=>hr a (List.mem_cons_of_mem _ ha)) _ (ZcD (Zbb h (hr r (Y0t ..)) h1)) (Z5s (ZcE hN (Zbb h (hr r (Y0t ..)) h1)))
theorem InM.le5 {c:Cu} (h:InM 62 c):(∀ r∈mem c.1,1<=r/\r<=5)/\∀ r∈mem c.2,1<=r/\r<=5:=by
 have h64:=h.lt (by decide);exact⟨fun r hr=>ZcC (orSub.1 h.1 r ((Z1k h64.1).1 hr)),fun r hr=>ZcC (orSub.1 h.2 r ((Z1k h64.2).1 hr))⟩
theorem Z7O {t:PB} (h:PbOk t) {c:Cu} (hm:InM 62 c):One62 (exN t.l t.n (mem c.2)) (exL t.l t.n c)/\(exL t.l t.n c).Nodup/\(exL t.l t.n c).length<=64/\∀ c'∈exL t.l t.n c,InM 62 c':=by
 have h1:=Zbc h (Zfy t.l h.n.2 (mem c.2)) (mem c.1) (fun r hr=>(hm.le5.1 r hr).2) [(0,exN t.l t.n (mem c.2))] (fun c hc=>by rw [Y0g] at hc; subst hc; exact⟨(by decide:(0:Nat) ||| 62=62),rfl⟩) (by simp);refine⟨h1.1,h1.2,Zba h1.1 h1.2,fun c' hc'=>⟨(h1.1 c' hc').1,?_⟩⟩;rw [(h1.1 c' hc').2];exact ZjI h fun r hr=>(hm.le5.2 r hr).2
theorem Zbd (l:List Pr) (n r:Nat):∀ x:List Cu,(exX l n r x).length<=64*x.length
 | []=>by simp [exX]
 | y :: x => by
   have ih:=Zbd l n r x;have:exX l n r (y :: x)=(mem (sen l r &&& mkN n)).map (fun a=>(y.1 ||| 2 ^ a,y.2))++exX l n r x:=by simp [exX]
   rw [this,Y0e,Y0f,Y04];have:=Z44 (sen l r &&& mkN n);omega
theorem Z56 (n:Nat) (hn:n<=63):withoutN (2 ^ (n+1)-1) 0=mkN n:=by
 refine Nat.eq_of_testBit_eq fun i=>?_;have hp:2 ^ (n+1)<=2 ^ 64:=Nat.pow_le_pow_right (by decide) (by omega);have:=Z3v (N:=2 ^ (n+1)-1) (by have:=Nat.two_pow_pos (n+1);omega) 0 i;rw [show ((0:Nat):Int)=0 from rfl] at this;rw [this,Nat.testBit_two_pow_sub_one,Z2k,Bool.eq_iff_iff];simp;omega
theorem Z57 {t:PB} (h:PbOk t) (S:List Nat) (c:Cu) (hc:InC t.n c) (hm:InM 62 c):Spec Tryz.prog 96 [.agg (pbP t S),cuP c] (· = .tup [.vec ((exL t.l t.n c).map cuC) false,.val (.int .i64 0)]):=by
 have hc64:=hm.lt (by decide);have hn:=h.n;have hp1:2 ^ (t.n+1)<=2 ^ 64:=Nat.pow_le_pow_right (by decide) (by omega);have hp0:=Nat.two_pow_pos (t.n+1);have hmk:=Z4o hn.2;have hinc0:IntKind.i64.wrap ((t.n:Int)+1)=((t.n+1:Nat):Int):=Y0v _ ⟨by omega,by omega⟩;have hbw:=Z10 (2 ^ (t.n+1)-1) (by omega) 0;rw [Z56 t.n hn.2] at hbw;have hwi:=Z1i (c.1 ||| c.2) (mkN t.n) (Z24 hc64.1 hc64.2) hmk;rw [decide_eq_true (show c.1 ||| c.2 ||| mkN t.n=mkN t.n by rw [Nat.or_assoc,hc.n,hc.y])] at hwi;refine Yp ok96 fun C hC=>?_;refine Zs ?_;refine Zc ?_;refine Z5 rfl rfl rfl ?_;refine Z5 rfl rfl rfl ?_;refine gd 20 ⟨?_⟩;refine Zg rfl rfl rfl hinc0 ?_;refine Qe (Z36 (t.n+1) (by omega) (by omega)) ⟨Yt,Yt⟩ ?_;refine Qe hbw ⟨Z1 _,Yt,Yt⟩ ?_;refine gd 27 ⟨?_⟩;refine Qd (Z1j c.1 c.2 hc64.1 hc64.2) ⟨Z1 _,Z1 _,Yt⟩ ?_;refine gd 29 ⟨?_⟩;refine Qd hwi ⟨Z1 _,Z1 _,Yt⟩ ?_;refine gd 33 ⟨?_⟩;refine Qe (Z25 c.2) ⟨Z1 _,Yt⟩ ?_;refine go ?_;have hpp:=ZL t S;have hI0:=hm.le5;refine Z3e (X:=List Nat) hC (caps := [.cp [.vec (words (digs c.2)) false]]) [(2,.cp (pbP t S)),(3,.cp (cuC c)),(4,.ptr 0 0 0),(5,.ptr 1 0 0),(6,.ptr 2 0 0),(7,.ptr 11 0 0),(33,.fn 128 [.cp [.vec (words (digs c.2)) false]])]
  (fun z => [(0,⟨1,[[.vec [] true]]⟩),(1,⟨1,[[.val (.int .i64 0)]]⟩),(2,⟨1,[[.vec (words (digs (mkN t.n))) false]]⟩),(11,⟨1,[[.vec (words (digs (exN t.l t.n z))) false]]⟩)]) rfl ⟨⟨Za _,Yt⟩,Yt⟩ (Z3h c.2 hc64.2) (fun _=>rfl)
  (fun ex pre z=>ex=.normal/\z=pre.map (·.val)) 12 (by decide) [] ⟨rfl,rfl⟩
  (Z2m (EnvQ.mem (ρ := fun i => i) (m := 12) (L := [(2, .cp (pbP t S)), (3, .cp (cuC c)), (4, .ptr 0 0 0), (5, .ptr 1 0 0), (6, .ptr 2 0 0), (7, .ptr 11 0 0), (33, .fn 128 [.cp [.vec (words (digs c.2)) false]])]) ⟨Qp hpp, Qp (Ze c), Qt 0 0 0, Qt 1 0 0, Qt 2 0 0, Qt 11 0 0, Qp ⟨⟨Za _, Yt⟩, Yt⟩, Yt⟩)
    (HeapQ.mem (ρ:=fun i=>i) (m:=12) (L := [(0,⟨1,[[.vec [] true]]⟩),(1,⟨1,[[.val (.int .i64 0)]]⟩),(2,⟨1,[[.vec (words (digs (mkN t.n))) false]]⟩),(11,⟨1,[[.vec (words (digs (exN t.l t.n []))) false]]⟩)]) ⟨Qs ⟨⟨Yt,Yt⟩,Yt⟩,Qs ⟨⟨Yt,Yt⟩,Yt⟩,Qs ⟨⟨Za _,Yt⟩,Yt⟩,⟨by decide,⟨1,[[.vec [] true]]⟩,rfl,by rw [show exN t.l t.n []=0 from rfl,ZJ]; exact RenB.single (ρ:=fun i=>i) (l0 := [.vec [] true]) (l := [.vec [] false]) (show RenLs _ _ [_] [_] from ⟨.low (.vec [] true) Yt,Yt⟩) rfl⟩,Yt⟩) hC (by decide))
  (fun z q hq=>by simp at hq; rcases hq with rfl|rfl|rfl|rfl<;>exact Nat.zero_lt_succ _) _ (fun x=>rfl) ?_ ?_ ?_
 . rintro C2 hC2 pre x z ⟨-, rfl⟩ hlen;have hx:=hI0.2 x.val x.2;have hst:exN t.l t.n (pre.map (·.val) ++ [x.val])=exN t.l t.n (pre.map (·.val)) ||| (sen t.l x.val &&& mkN t.n):=by unfold exN; rw [List.foldl_append]; rfl
   have hz:=Zfy t.l hn.2 (pre.map (·.val));have hsl:=Zcx t.l h.good.small (show x.val<64 by omega);refine gd 39 ⟨?_⟩;refine Qd (Z3M t.l S x.val hx.1 (by omega)) ⟨Zw _ _,Yt,Yt⟩ ?_;refine gd 41 ⟨?_⟩;refine Qd (Z6N (sen t.l x.val) (mkN t.n) hsl hmk) ⟨Z1 _,Z1 _,Yt⟩ ?_;refine Qd (Z1j _ _ hz (Z8G hsl)) ⟨Z1 _,Z1 _,Yt⟩ ?_;rw [<- hst];refine go ?_
   exact⟨.inl rfl,pre.map (·.val) ++ [x.val],fun i=>i,⟨rfl,by rw [Y0r]; rfl⟩,fun i hi=>rfl,Zt,
    ⟨Qp hpp,Qp (Ze c),Qt 0 0 0,Qt 1 0 0,Qt 2 0 0,Qt 11 0 0,Qp ⟨⟨Za _,Yt⟩,Yt⟩,Yt⟩,
    ⟨Qs ⟨⟨Yt,Yt⟩,Yt⟩,Qs ⟨⟨Yt,Yt⟩,Yt⟩,Qs ⟨⟨Za _,Yt⟩,Yt⟩,Qs ⟨⟨Za _,Yt⟩,Yt⟩,Yt⟩⟩
 . rintro xs z hxs ⟨-, rfl⟩;rw [hxs];have hN0:=Zfy t.l hn.2 (mem c.2);generalize hN0e:exN t.l t.n (mem c.2)=N0 at hN0;refine gd 48 ⟨?_⟩;refine Qe (Z25 c.1) ⟨Z1 _,Yt⟩ ?_;refine go ?_;have hlow:([(0,N0)]:List Cu).map cuC=lowLL [[.vec [] true,.vec (words (digs N0)) false]]:=by
    show [[PV.vec (words (digs 0)) false,.vec (words (digs N0)) false]] = [[PV.vec [] false,.vec (lowLL (words (digs N0))) false]];rw [ZJ,ZK]; rfl
   have hone:∀ rs:List Nat,(∀ r∈rs,r<=5)->One62 N0 (exF t.l t.n rs [(0,N0)])/\(exF t.l t.n rs [(0,N0)]).Nodup:=fun rs hr=>Zbc h hN0 rs hr _ (fun c hc=>by rw [Y0g] at hc; subst hc; exact⟨(by decide:(0:Nat) ||| 62=62),rfl⟩) (by simp);refine Z3e (X:=List Nat) hC (caps := [.cp [.vec (words (digs c.1)) false]]) [(2,.cp (pbP t S)),(4,.ptr 0 0 0),(5,.ptr 1 0 0),(6,.ptr 2 0 0),(9,.ptr 12 0 0),(48,.fn 128 [.cp [.vec (words (digs c.1)) false]])]
    (fun z => [(0,⟨1,[[.vec [] true]]⟩),(1,⟨1,[[.val (.int .i64 0)]]⟩),(2,⟨1,[[.vec (words (digs (mkN t.n))) false]]⟩),(12,⟨1,[[.vec ((exF t.l t.n z [(0,N0)]).map cuC) false]]⟩)]) rfl ⟨⟨Za _,Yt⟩,Yt⟩ (Z3h c.1 hc64.1) (fun _=>rfl)
    (fun ex pre z=>ex=.normal/\z=pre.map (·.val)) 13 (by decide) [] ⟨rfl,rfl⟩
    (Z2m (EnvQ.mem (ρ := fun i => i) (m := 13) (L := [(2, .cp (pbP t S)), (4, .ptr 0 0 0), (5, .ptr 1 0 0), (6, .ptr 2 0 0), (9, .ptr 12 0 0), (48, .fn 128 [.cp [.vec (words (digs c.1)) false]])]) ⟨Qp hpp, Qt 0 0 0, Qt 1 0 0, Qt 2 0 0, Qt 12 0 0, Qp ⟨⟨Za _, Yt⟩, Yt⟩, Yt⟩)
      (HeapQ.mem (ρ:=fun i=>i) (m:=13) (L := [(0,⟨1,[[.vec [] true]]⟩),(1,⟨1,[[.val (.int .i64 0)]]⟩),(2,⟨1,[[.vec (words (digs (mkN t.n))) false]]⟩),(12,⟨1,[[.vec (([(0,N0)]:List Cu).map cuC) false]]⟩)]) ⟨Qs ⟨⟨Yt,Yt⟩,Yt⟩,Qs ⟨⟨Yt,Yt⟩,Yt⟩,Qs ⟨⟨Za _,Yt⟩,Yt⟩,⟨by decide,_,rfl,by rw [hlow]; exact RenB.single (ρ:=fun i=>i) (l := [.vec (lowLL [[.vec [] true,.vec (words (digs N0)) false]]) false]) (show RenLs _ _ [_] [_] from ⟨.low (.vec [[.vec [] true,.vec (words (digs N0)) false]] true) (by show pureLL (lowLL _); rw [<- hlow]; exact Z2 [(0,N0)]),Yt⟩) rfl⟩,Yt⟩) hC (by decide))
    (fun z q hq=>by simp at hq; rcases hq with rfl|rfl|rfl|rfl<;>exact Nat.zero_lt_succ _) _ (fun x=>rfl) ?_ ?_ ?_
   . rintro C2 hC2 pre x z ⟨-, rfl⟩ hlen;have hx:=hI0.1 x.val x.2;obtain⟨ho1,ho2⟩:=hone (pre.map (·.val)) fun r hr=>by obtain⟨y,_,rfl⟩:=Y0i.1 hr; exact (hI0.1 _ y.2).2
     have hst:exF t.l t.n (pre.map (·.val) ++ [x.val]) [(0,N0)]=simL (exX t.l t.n x.val (exF t.l t.n (pre.map (·.val)) [(0,N0)])):=by unfold exF; rw [List.foldl_append]; rfl
     generalize exF t.l t.n (pre.map (·.val)) [(0,N0)]=zs at ho1 ho2 hst ⊢;have hzl:=Zba ho1 ho2;have hz64:=ZcE hN0 ho1;have hsl:=Zcx t.l h.good.small (show x.val<64 by omega);have hM:=Z8G (M:=mkN t.n) hsl;have hxo:=Zbb h hx.2 ho1;have hxn:=Z5s (ZcE hN0 hxo);have hxl:=Zba (ZcD hxo) hxn;have hxll:=Zbd t.l t.n x.val zs;refine gd 50 ⟨?_⟩;refine Zf (ZU (id:=13) (i0:=0) (j0:=0) rfl (by decide) (by decide) rfl 2 (by decide) (by decide)) ?_;refine go ?_;have hnl:(zs.map cuC).length=zs.length:=by simp
     refine ZF hC2 (fun (j:Nat)=>j<=zs.length) (fun j=>zs.length-j) 15
      (fun j => [(2,.cp (pbP t S)),(6,.ptr 2 0 0),(9,.ptr 12 0 0),(10,.val (.int .i64 (x.val:Int))),(11,.ptr 13 0 0),(50,.vec (zs.map cuC) false),(51,.val (.int .i64 (zs.length:Int))),(52,Yv j)])
      (fun j => [(0,⟨1,[[.vec [] true]]⟩),(1,⟨1,[[.val (.int .i64 0)]]⟩),(2,⟨1,[[.vec (words (digs (mkN t.n))) false]]⟩),(12,⟨1,[[.vec (zs.map cuC) false]]⟩),(13,⟨1,[[.own 14]]⟩),(14,⟨2,(exX t.l t.n x.val (zs.take j)).map cuC⟩)]) (by decide) 0 (Y0l _) (fun i=>i) (fun _ _=>rfl) Zt
      ⟨Qp hpp,Qt 2 0 0,Qt 12 0 0,Qp Yt,Qt 13 0 0,Qp (Z2 _),⟨_,by rw [<- hnl]; rfl,.pure _ Yt⟩,Qp Yt,Yt⟩
      ⟨Qs ⟨⟨Yt,Yt⟩,Yt⟩,Qs ⟨⟨Yt,Yt⟩,Yt⟩,Qs ⟨⟨Za _,Yt⟩,Yt⟩,Qs ⟨⟨Z2 _,Yt⟩,Yt⟩,⟨by decide,_,rfl,RenB.single ⟨.own (ρ:=fun i=>i) 14 (by decide),Yt⟩ rfl⟩,Qs Yt,Yt⟩ ?_
     intro j hj;have hinc:IntKind.i64.wrap ((j:Int)+1)=((j+1:Nat):Int):=Y0v _ ⟨by omega,by omega⟩
     iterate 2 (first|refine st ?_|(apply B<;>intro hb<;>try cases hb))
     refine Zq rfl rfl rfl (fun hb=>?_) (fun hb=>?_)
     . have hjl : j < zs.length := by have := Y0u hb; omega
       clear hb;have hy:=hz64 _ (Y0j hjl);have hsj:exX t.l t.n x.val (zs.take (j+1))=exX t.l t.n x.val (zs.take j)++(mem (sen t.l x.val &&& mkN t.n)).map fun a=>(zs[j].1 ||| 2 ^ a,zs[j].2):=by
        unfold exX;rw [List.take_add_one,Y0c hjl,List.flatMap_append];simp
       have hlj:(exX t.l t.n x.val (zs.take j)).length<=4096:=by
        have:=Zbd t.l t.n x.val (zs.take j);rw [Y0o] at this;omega
       generalize hy0:zs[j]=y at hy hsj;generalize exX t.l t.n x.val (zs.take j)=acc at hsj hlj ⊢;refine go ?_;refine Qo (Zm (xs:=zs) (g:=cuC) rfl rfl j rfl hjl rfl) ?_;rw [hy0];refine gd 59 ⟨?_⟩;refine Qd (Z3M t.l S x.val hx.1 (by omega)) ⟨Zw _ _,Yt,Yt⟩ ?_;refine gd 61 ⟨?_⟩;refine Qd (Z6N (sen t.l x.val) (mkN t.n) hsl hmk) ⟨Z1 _,Z1 _,Yt⟩ ?_;generalize sen t.l x.val &&& mkN t.n=M at hM hsj ⊢;refine Qd (Z25 M) ⟨Z1 _,Yt⟩ ?_;refine go ?_;refine Z3e (X:=List Nat) hC2 (caps := [.cp [.vec (words (digs M)) false]]) [(2,.cp (pbP t S)),(6,.ptr 2 0 0),(9,.ptr 12 0 0),(10,.val (.int .i64 (x.val:Int))),(11,.ptr 13 0 0),(13,.ptr 15 0 0),(50,.vec (zs.map cuC) false),(51,.val (.int .i64 (zs.length:Int))),(52,Yv j),(62,.fn 128 [.cp [.vec (words (digs M)) false]])]
        (fun w => [(0,⟨1,[[.vec [] true]]⟩),(1,⟨1,[[.val (.int .i64 0)]]⟩),(2,⟨1,[[.vec (words (digs (mkN t.n))) false]]⟩),(12,⟨1,[[.vec (zs.map cuC) false]]⟩),(13,⟨1,[[.own 14]]⟩),(14,⟨2,(acc++w.map fun a=>(y.1 ||| 2 ^ a,y.2)).map cuC⟩),(15,⟨2,[cuC y]⟩)]) rfl ⟨⟨Za _,Yt⟩,Yt⟩ (Z3h M hM) (fun _=>rfl)
        (fun ex pre z=>ex=.normal/\z=pre.map (·.val)) 23 (by decide) [] ⟨rfl,rfl⟩
        (Z2m (EnvQ.mem (ρ := fun i => i) (m := 23) (L := [(2, .cp (pbP t S)), (6, .ptr 2 0 0), (9, .ptr 12 0 0), (10, .val (.int .i64 (x.val : Int))), (11, .ptr 13 0 0), (13, .ptr 15 0 0), (50, .vec (zs.map cuC) false), (51, .val (.int .i64 (zs.length : Int))), (52, Yv j), (62, .fn 128 [.cp [.vec (words (digs M)) false]])]) ⟨Qp hpp, Qt 2 0 0, Qt 12 0 0, Qp Yt, Qt 13 0 0, Qt 15 0 0, Qp (Z2 _), Qp Yt, Qp Yt, Qp ⟨⟨Za _, Yt⟩, Yt⟩, Yt⟩)
          (HeapQ.mem (ρ:=fun i=>i) (m:=23) (L := [(0,⟨1,[[.vec [] true]]⟩),(1,⟨1,[[.val (.int .i64 0)]]⟩),(2,⟨1,[[.vec (words (digs (mkN t.n))) false]]⟩),(12,⟨1,[[.vec (zs.map cuC) false]]⟩),(13,⟨1,[[.own 14]]⟩),(14,⟨2,(acc++([]:List Nat).map fun a=>(y.1 ||| 2 ^ a,y.2)).map cuC⟩),(15,⟨2,[cuC y]⟩)]) ⟨Qs ⟨⟨Yt,Yt⟩,Yt⟩,Qs ⟨⟨Yt,Yt⟩,Yt⟩,Qs ⟨⟨Za _,Yt⟩,Yt⟩,Qs ⟨⟨Z2 _,Yt⟩,Yt⟩,⟨by decide,_,rfl,RenB.single ⟨.own (ρ:=fun i=>i) 14 (by decide),Yt⟩ rfl⟩,⟨by decide,_,rfl,by rw [List.map_nil,Y0p]; exact .same _ (Z2 _)⟩,Qs ⟨Ze y,Yt⟩,Yt⟩) hC2 (by decide))
        (fun z q hq=>by simp at hq; rcases hq with rfl|rfl|rfl|rfl|rfl|rfl|rfl<;>exact Nat.zero_lt_succ _) _ (fun x=>rfl) ?_ ?_ ?_
       . rintro C3 hC3 pre2 a w ⟨-, rfl⟩ hlen2;have ha:=Z33 a.2;have hml:=Z44 M;have hsn:acc++(pre2.map (·.val) ++ [a.val]).map (fun a=>(y.1 ||| 2 ^ a,y.2))=(acc++(pre2.map (·.val)).map fun a=>(y.1 ||| 2 ^ a,y.2)) ++ [(y.1 ||| 2 ^ a.val,y.2)]:=by simp
         have hal:(acc++(pre2.map (·.val)).map fun a=>(y.1 ||| 2 ^ a,y.2)).length<=5000:=by simp; omega
         generalize (acc++(pre2.map (·.val)).map fun a=>(y.1 ||| 2 ^ a,y.2))=acc2 at hsn hal ⊢;refine gd 68 ⟨?_⟩;refine Qd (Z13 y.1 hy.1 a.val ha) ⟨Z1 _,Yt,Yt⟩ ?_;refine gd 73 ⟨?_⟩
         refine Qr (Zx (k:=14) (m := [cuC (y.1 ||| 2 ^ a.val,y.2)]) (fl:=true) rfl rfl rfl (fun q hq=>by rw [Y0g] at hq; subst hq; rfl) rfl (by
          show ((acc2.map cuC).length+1)*48<=_
          rw [Y0f];omega)) ?_
         refine go ?_
         refine⟨.inl rfl,pre2.map (·.val) ++ [a.val],mv 14 32,⟨rfl,by rw [Y0r]; rfl⟩,Z4Q (by decide),Zy rfl,
          ⟨Qp hpp,Qt 2 0 0,Qt 12 0 0,Qp Yt,Qt 13 0 0,Qt 15 0 0,Qp (Z2 _),Qp Yt,Qp Yt,Qp ⟨⟨Za _,Yt⟩,Yt⟩,Yt⟩,?_⟩
         show HeapQ _ _ _ [_,_,_,_,_,(14,⟨2,(acc++(pre2.map (·.val) ++ [a.val]).map fun a=>(y.1 ||| 2 ^ a,y.2)).map cuC⟩),_];rw [hsn];refine⟨Qs ⟨⟨Yt,Yt⟩,Yt⟩,Qs ⟨⟨Yt,Yt⟩,Yt⟩,Qs ⟨⟨Za _,Yt⟩,Yt⟩,Qs ⟨⟨Z2 _,Yt⟩,Yt⟩,⟨by decide,_,rfl,RenB.single ⟨.own (ρ:=mv 14 32) 14 (by decide),Yt⟩ rfl⟩,⟨by decide,_,rfl,?_⟩,Qs ⟨Ze y,Yt⟩,Yt⟩;show RenB _ _ ⟨2,acc2.map cuC ++ [cuC (y.1 ||| 2 ^ a.val,y.2)]⟩ ⟨2,(acc2 ++ [(y.1 ||| 2 ^ a.val,y.2)]).map cuC⟩;rw [Y0r];exact .same _ (by rw [<- List.map_singleton,<- Y0r]; exact Z2 _)
       . rintro xs w hxs2 ⟨-, rfl⟩;rw [hxs2];refine go ?_
         refine⟨j+1,fun i=>i,hjl,by omega,fun _ _=>rfl,Zt,
          ⟨Qp hpp,Qt 2 0 0,Qt 12 0 0,Qp Yt,Qt 13 0 0,Qp (Z2 _),Qp Yt,⟨_,by show some _=some _; rw [hinc],.pure _ Yt⟩,Yt⟩,?_⟩
         show HeapQ _ _ _ [_,_,_,_,_,(14,⟨2,(exX t.l t.n x.val (zs.take (j+1))).map cuC⟩)];rw [hsj];exact⟨Qs ⟨⟨Yt,Yt⟩,Yt⟩,Qs ⟨⟨Yt,Yt⟩,Yt⟩,Qs ⟨⟨Za _,Yt⟩,Yt⟩,Qs ⟨⟨Z2 _,Yt⟩,Yt⟩,⟨by decide,_,rfl,RenB.single ⟨.own (ρ:=fun i=>i) 14 (by decide),Yt⟩ rfl⟩,Qs (Z2 _),Yt⟩
       . rintro ex pre2 w - ⟨rfl,_⟩ (h|⟨id,h⟩)<;>cases h
     . have hjl : j = zs.length := by have := of_decide_eq_false hb; omega
       subst hjl;clear hb;rw [Y0q]
       repeat' (first|refine Zf (Zp (k:=75) rfl rfl (Z2 _)) ?_|(first|refine st ?_|(apply B<;>intro hb<;>try cases hb)))
       refine Qe (Z6J _ false (ZcE hN0 hxo) (by omega)) ⟨Z2 _,Yt⟩ ?_;refine gd 79 ⟨?_⟩;refine Qo (Z4 (v:=false) rfl (by simp;omega)) ?_;refine go ?_
       refine⟨.inl rfl,pre.map (·.val) ++ [x.val],fun i=>i,⟨rfl,by rw [Y0r]; rfl⟩,fun i hi=>rfl,Zt,
        ⟨Qp hpp,Qt 0 0 0,Qt 1 0 0,Qt 2 0 0,Qt 12 0 0,Qp ⟨⟨Za _,Yt⟩,Yt⟩,Yt⟩,?_⟩
       show HeapQ _ _ _ [_,_,_,(12,⟨1,[[.vec ((exF t.l t.n (pre.map (·.val) ++ [x.val]) [(0,N0)]).map cuC) false]]⟩)];rw [hst];exact⟨Qs ⟨⟨Yt,Yt⟩,Yt⟩,Qs ⟨⟨Yt,Yt⟩,Yt⟩,Qs ⟨⟨Za _,Yt⟩,Yt⟩,Qs ⟨⟨Z2 _,Yt⟩,Yt⟩,Yt⟩
   . rintro xs z hxs ⟨-, rfl⟩;rw [hxs];have he:exF t.l t.n (mem c.1) [(0,N0)]=exL t.l t.n c:=by unfold exL; rw [hN0e]
     rw [he];refine go ?_;exact Z7 rfl ⟨Z2 _,Yt,Yt⟩ rfl
   . rintro ex pre z - ⟨rfl,_⟩ (h|⟨id,h⟩)<;>cases h
 . rintro ex pre z - ⟨rfl,_⟩ (h|⟨id,h⟩)<;>cases h
theorem ZcF {e:Env} {h:Heap} {n:Nat} {x y:Operand} {a b:Int} (hx:ev e x=some (.val (.int .i64 a))) (hy:ev e y=some (.val (.int .i64 b))) (hb:b≠0):dEval (.bin .rem .num x y) e h n=some (.val (.int .i64 (a.tmod b)),h):=by
 simp [dEval,hx,hy,pbin,sbin,hb]
theorem Z58 {α:Type} {f:α->List PV} (hf:∀ x,lowL (f x)=f x):∀ l:List α,lowLL (l.map f)=l.map f
 | []=>rfl
 | c :: l => by
   show lowL (f c) :: lowLL (l.map f)=_;rw [hf,Z58 hf l]; rfl
structure MkOk (t:PB):Prop where
 ok:PbOk t
 n:2<=t.n/\t.n<=5
 rs:t.rs.length<=6
 nv:t.nv.length<=3
 gl:1<=t.gl.length/\t.gl.length<=3
structure LJ (n:Nat) (l:List Pr) (k:Nat):Prop where
 asc:SortedP l
 len:l.length<=k
 mem:∀ p∈l,1<=p.1/\p.1<p.2/\p.2<=n
theorem LJ.nil (n:Nat):LJ n [] 0:=⟨List.Pairwise.nil,Y0m _,fun _ h=>by cases h⟩
theorem LJ.mono {n:Nat} {l:List Pr} {k k':Nat} (h:LJ n l k) (hk:k<=k'):LJ n l k':=⟨h.asc,Y03 h.len hk,h.mem⟩
theorem LJ.step {n:Nat} {l:List Pr} {k a b:Nat} (h:LJ n l k) {l':List Pr} (hL:Linked l (a,b) l') (ha:1<=a) (hab:a<b) (hb:b<=n):LJ n l' (k+1) :=
 ⟨hL.sorted h.asc,Y03 hL.len (Nat.succ_le_succ h.len),fun p hp=>(hL.mem p hp).elim (h.mem p) fun e=>by subst e; exact⟨ha,hab,hb⟩⟩
theorem LJ.good {n:Nat} (hn:n<=5) {l:List Pr} {k:Nat} (h:LJ n l k):GoodL l :=
 ⟨h.asc,fun p hp=>by have:=h.mem p hp; omega,⟨fun i=>i,fun p hp=>(h.mem p hp).2.1⟩⟩
theorem ZjJ {n:Nat} (h1:2<=n) (h2:n<=5):IntKind.u8.wrap (2*2 ^ (min ((n:Nat):Int).toNat IntKind.u8.bits))=((2*2 ^ n:Nat):Int)/\IntKind.u8.wrap (((2*2 ^ n:Nat):Int)-2)=((mkN n:Nat):Int)/\mkN n<64/\mkN n ||| 62=62:=by
 have:n=2 \/ n=3 \/ n=4 \/ n=5:=by omega
 rcases this with rfl|rfl|rfl|rfl<;>decide
theorem ZiN (X:Int) (m:Nat) (hm:m<256):∃ s:Nat,s ||| m=m/\bits .and .u8 X (m:Int)=(s:Int):=by
 refine⟨(BitVec.ofInt 8 X).toNat &&& m,Zfr _ m,?_⟩;rw [<- Zi3 _ _ (BitVec.ofInt 8 X).isLt hm];show IntKind.u8.wrap ((BitVec.ofInt 8 X &&& BitVec.ofInt 8 (m:Int)).toNat:Int)=IntKind.u8.wrap ((BitVec.ofInt 8 ((BitVec.ofInt 8 X).toNat:Int) &&& BitVec.ofInt 8 (m:Int)).toNat:Int);rw [show BitVec.ofInt 8 ((BitVec.ofInt 8 X).toNat:Int)=BitVec.ofInt 8 X by rw [BitVec.ofInt_natCast,BitVec.ofNat_toNat,BitVec.setWidth_eq]]
theorem Z3o (a b:Nat):((a:Nat):Int).tmod ((b:Nat):Int)=((a % b:Nat):Int):=by rw [Int.ofNat_tmod]
theorem InM.inC {n:Nat} {c:Cu} (h:InM (mkN n) c) (he:emC c=false):InC n c:=⟨h.1,h.2,he⟩
theorem Z4d {a b c:Nat} (h1:a ||| b=b) (h2:b ||| c=c):a ||| c=c:=orSub.2 fun i hi=>orSub.1 h2 i (orSub.1 h1 i hi)
theorem RuOk.mk0 {n:Nat} (hn:n<=5) {c:Cu} {rev:Bool} {tg og:Nat} (hc:InM (mkN n) c) (h62:mkN n ||| 62=62) (he:emC c=false) (ht:1<=tg/\tg<=n) (hr:rev=true->c=(0,0)):RuOk n ⟨rev,c,tg,og⟩ :=
 ⟨hc.inC he,⟨Z4d hc.1 h62,Z4d hc.2 h62⟩,⟨ht.1,ht.2,by show tg<=5; omega⟩,hr⟩
theorem Zbe (p:List Nat) (fl:Bool) (hp:Bytes p):Spec Tryz.prog 20 [.vec (bys p) fl] fun r=>∃ t:PB,MkOk t/\r=.agg (pbR t):=by
 have hpl:∀ (l:List Pr) D,innLL D (l.map prC):=fun l D=>Zb (fun _ h=>h.elim) _ (Zl l);have hsi:∀ t D,innLL D (srcB p fl t).elems:=fun t D=>Zh8 p fl t D;refine Yp ok20 fun C hC=>?_;refine gd 30 ⟨?_⟩;refine ZP (ZQ p hp fl 0 (by omega)) rfl rfl rfl rfl (ZC p fl 0) Yt ?_;rintro r b' - - ⟨v1,hv1,rfl,rfl⟩;refine Zg rfl rfl rfl (Z3o v1 4) ?_;have hn4:=Nat.mod_lt v1 (show 0<4 by decide);refine Zg rfl rfl rfl (show IntKind.i64.wrap (2+((v1 % 4:Nat):Int))=((2+v1 % 4:Nat):Int) from by rw [Y0v _ ⟨by omega,by omega⟩];omega) ?_;obtain⟨n,hn⟩:∃ n,2+v1 % 4=n:=⟨_,rfl⟩
 rw [hn];have hn2:2<=n/\n<=5:=by omega
 obtain⟨hm1,hm2,hm64,hm62⟩:=ZjJ hn2.1 hn2.2;clear hn hn4 hv1;refine gd 36 ⟨?_⟩;refine Zg rfl rfl rfl (show IntKind.u64.wrap ((n:Nat):Int)=((n:Nat):Int) from Y0x _ ⟨by omega,by omega⟩) ?_;refine Z3Z rfl rfl (by omega) hm1 rfl ?_;refine Zg rfl rfl rfl hm2 ?_;refine gd 40 ⟨?_⟩;refine ZP (ZQ p hp fl 1 (by omega)) rfl rfl rfl rfl (ZC p fl 1) Yt ?_;rintro r b' - - ⟨v2,hv2,rfl,rfl⟩;refine go ?_;refine Zn hC (fun (z:Nat×Nat×List Pr×Bool)=>1<=z.1/\z.1<=n/\z.2.1<=10*z.1/\LJ n z.2.2.1 z.2.1) (fun z=>n-z.1) 3 (fun z => [(2,.ptr 0 0 0),(3,.ptr 1 0 0),(4,.ptr 2 0 0),(5,.val (.int .u8 (mkN n:Nat))),(6,.val (.int .i64 (v2:Int))),(7,.val (.int .i64 (z.2.1:Int))),(8,Yv z.1)])
  (fun z => [(0,⟨6,[zpv [.int .i64 0,.slice none 0 0,.int .u64 0,.slice none 0 0,.slice none 0 0,.slice none 0 0]]⟩),(1,srcB p fl 2),(2,⟨6,[[.val (.int .i64 (n:Int)),.vec (z.2.2.1.map prC) z.2.2.2,.val (.int .u64 0),.vec [] true,.vec [] true,.vec [] true]]⟩)]) (Y0l _) (1,0,[],true) ⟨Y0m _,by show 1<=n; omega,by show 0<=_; omega,LJ.nil n⟩
  ⟨⟨rfl,show (0:Nat)<3 by decide⟩,⟨rfl,show (1:Nat)<3 by decide⟩,⟨rfl,show (2:Nat)<3 by decide⟩,⟨rfl,Yt⟩,⟨rfl,Yt⟩,⟨rfl,Yt⟩,⟨rfl,Yt⟩,Yt⟩
  ⟨⟨by decide,rfl,⟨⟨Yt,Yt,Yt,Yt,Yt,Yt,Yt⟩,Yt⟩⟩,⟨by decide,rfl,hsi 2 _⟩,⟨by decide,rfl,⟨⟨Yt,Yt,Yt,Yt,Yt,Yt,Yt⟩,Yt⟩⟩,Yt⟩ ?_
 rintro⟨a,k,l,fk⟩ ⟨ha1,han,hk,hl⟩;dsimp only at ha1 han hk hl;have hainc:IntKind.i64.wrap ((a:Int)+1)=((a+1:Nat):Int):=Y0v _ ⟨by omega,by omega⟩;refine gd 44 ⟨?_⟩;refine Zq rfl rfl rfl (fun hb=>?_) (fun hb=>?_)
 . have hal : a < n := by have := Y0u hb; omega
   clear hb;refine go ?_;refine Zn hC (fun (z:Nat×Nat×List Pr×Bool)=>a+1<=z.1/\z.1<=n+1/\z.2.1<=10*a+z.1/\LJ n z.2.2.1 z.2.1) (fun z=>n+1-z.1) 3 (fun z => [(2,.ptr 0 0 0),(3,.ptr 1 0 0),(4,.ptr 2 0 0),(5,.val (.int .u8 (mkN n:Nat))),(6,.val (.int .i64 (v2:Int))),(7,.val (.int .i64 (z.2.1:Int))),(8,.val (.int .i64 (a:Int))),(9,Yv z.1)])
    (fun z => [(0,⟨6,[zpv [.int .i64 0,.slice none 0 0,.int .u64 0,.slice none 0 0,.slice none 0 0,.slice none 0 0]]⟩),(1,srcB p fl 2),(2,⟨6,[[.val (.int .i64 (n:Int)),.vec (z.2.2.1.map prC) z.2.2.2,.val (.int .u64 0),.vec [] true,.vec [] true,.vec [] true]]⟩)]) (Y0l _) (a+1,k,l,fk) ⟨Y0m _,by show a+1<=n+1; omega,by show k<=10*a+(a+1); omega,hl⟩
    ⟨⟨rfl,show (0:Nat)<3 by decide⟩,⟨rfl,show (1:Nat)<3 by decide⟩,⟨rfl,show (2:Nat)<3 by decide⟩,⟨rfl,Yt⟩,⟨rfl,Yt⟩,⟨rfl,Yt⟩,⟨rfl,Yt⟩,⟨by show some _=some _; rw [hainc],Yt⟩,Yt⟩
    ⟨⟨by decide,rfl,⟨⟨Yt,Yt,Yt,Yt,Yt,Yt,Yt⟩,Yt⟩⟩,⟨by decide,rfl,hsi 2 _⟩,⟨by decide,rfl,⟨⟨Yt,hpl _ _,Yt,Yt,Yt,Yt,Yt⟩,Yt⟩⟩,Yt⟩ ?_
   clear hk hl;rintro⟨c,k,l,fk⟩ ⟨hc1,hcn,hk,hl⟩;dsimp only at hc1 hcn hk hl;have hcinc:IntKind.i64.wrap ((c:Int)+1)=((c+1:Nat):Int):=Y0v _ ⟨by omega,by omega⟩;have hkinc:IntKind.i64.wrap ((k:Int)+1)=((k+1:Nat):Int):=Y0v _ ⟨by omega,by omega⟩;have hend:∀ l' fk',LJ n l' (k+1)->c<=n->(fun (z:Nat×Nat×List Pr×Bool)=>a+1<=z.1/\z.1<=n+1/\z.2.1<=10*a+z.1/\LJ n z.2.2.1 z.2.1) (c+1,k+1,l',fk'):=fun l' fk' h1 h2=>⟨by show a+1<=c+1; omega,by show c+1<=n+1; omega,by show k+1<=10*a+(c+1); omega,h1⟩
   refine gd 52 ⟨?_⟩;refine Zq rfl rfl rfl (fun hb=>?_) (fun hb=>?_)
   . have hcl : c <= n := by have := Y0u hb; omega
     clear hb;refine gd 57 ⟨?_⟩;refine Zg rfl rfl rfl (Z3o k 8) ?_;have hk8:=Nat.mod_lt k (show 0<8 by decide);refine Zg rfl rfl rfl (show IntKind.u64.wrap ((k % 8:Nat):Int)=((k % 8:Nat):Int) from Y0x _ ⟨by omega,by omega⟩) ?_;refine Z3b rfl rfl (by omega) rfl rfl ?_;refine gd 61 ⟨?_⟩;refine Zq rfl rfl rfl (fun hb=>?_) (fun hb=>?_)
     . clear hb;refine gd 65 ⟨?_⟩;refine Zo rfl ?_;refine Zq rfl rfl rfl (fun hb=>?_) (fun hb=>?_)
       . clear hb;refine gd 72 ⟨?_⟩;refine ZT rfl rfl (ZdG l fk (hl.good hn2.2).small a c ⟨ha1,by omega⟩ ⟨by omega,by omega⟩ (by omega) (by have:=hl.len;omega)) ⟨Zl l,Yt,Yt,Yt⟩ rfl ?_;rintro r ⟨l',fl',er,hL,rfl⟩;refine go ?_;exact⟨(c+1,k+1,l',fl'),hend l' fl' (hl.step hL ha1 (by omega) hcl) hcl,by show n+1-(c+1)<n+1-c; omega,⟨⟨rfl,show (0:Nat)<3 by decide⟩,⟨rfl,show (1:Nat)<3 by decide⟩,⟨rfl,show (2:Nat)<3 by decide⟩,⟨rfl,Yt⟩,⟨rfl,Yt⟩,⟨by show some _=some _; rw [hkinc],Yt⟩,⟨rfl,Yt⟩,⟨by show some _=some _; rw [hcinc],Yt⟩,Yt⟩,⟨⟨by decide,rfl,⟨⟨Yt,Yt,Yt,Yt,Yt,Yt,Yt⟩,Yt⟩⟩,⟨by decide,rfl,hsi 2 _⟩,⟨by decide,rfl,⟨⟨Yt,hpl _ _,Yt,Yt,Yt,Yt,Yt⟩,Yt⟩⟩,Yt⟩⟩
       . clear hb;refine go ?_;exact⟨(c+1,k+1,l,fk),hend l fk (hl.mono (Nat.le_succ k)) hcl,by show n+1-(c+1)<n+1-c; omega,⟨⟨rfl,show (0:Nat)<3 by decide⟩,⟨rfl,show (1:Nat)<3 by decide⟩,⟨rfl,show (2:Nat)<3 by decide⟩,⟨rfl,Yt⟩,⟨rfl,Yt⟩,⟨by show some _=some _; rw [hkinc],Yt⟩,⟨rfl,Yt⟩,⟨by show some _=some _; rw [hcinc],Yt⟩,Yt⟩,⟨⟨by decide,rfl,⟨⟨Yt,Yt,Yt,Yt,Yt,Yt,Yt⟩,Yt⟩⟩,⟨by decide,rfl,hsi 2 _⟩,⟨by decide,rfl,⟨⟨Yt,hpl _ _,Yt,Yt,Yt,Yt,Yt⟩,Yt⟩⟩,Yt⟩⟩
     . clear hb;refine go ?_;exact⟨(c+1,k+1,l,fk),hend l fk (hl.mono (Nat.le_succ k)) hcl,by show n+1-(c+1)<n+1-c; omega,⟨⟨rfl,show (0:Nat)<3 by decide⟩,⟨rfl,show (1:Nat)<3 by decide⟩,⟨rfl,show (2:Nat)<3 by decide⟩,⟨rfl,Yt⟩,⟨rfl,Yt⟩,⟨by show some _=some _; rw [hkinc],Yt⟩,⟨rfl,Yt⟩,⟨by show some _=some _; rw [hcinc],Yt⟩,Yt⟩,⟨⟨by decide,rfl,⟨⟨Yt,Yt,Yt,Yt,Yt,Yt,Yt⟩,Yt⟩⟩,⟨by decide,rfl,hsi 2 _⟩,⟨by decide,rfl,⟨⟨Yt,hpl _ _,Yt,Yt,Yt,Yt,Yt⟩,Yt⟩⟩,Yt⟩⟩
   . have hcl : c = n + 1 := by have := of_decide_eq_false hb; omega
     clear hb;refine go ?_;exact⟨(a+1,k,l,fk),⟨by show 1<=a+1; omega,by show a+1<=n; omega,by show k<=10*(a+1); omega,hl⟩,by show n-(a+1)<n-a; omega,⟨⟨rfl,show (0:Nat)<3 by decide⟩,⟨rfl,show (1:Nat)<3 by decide⟩,⟨rfl,show (2:Nat)<3 by decide⟩,⟨rfl,Yt⟩,⟨rfl,Yt⟩,⟨rfl,Yt⟩,⟨by show some _=some _; rw [hainc],Yt⟩,Yt⟩,⟨⟨by decide,rfl,⟨⟨Yt,Yt,Yt,Yt,Yt,Yt,Yt⟩,Yt⟩⟩,⟨by decide,rfl,hsi 2 _⟩,⟨by decide,rfl,⟨⟨Yt,hpl _ _,Yt,Yt,Yt,Yt,Yt⟩,Yt⟩⟩,Yt⟩⟩
 . have hal : a = n := by have := of_decide_eq_false hb; omega
   clear hb;have hgl:=hl.good hn2.2;have hlm:=hl.mem;clear hl hk hv2 hainc;refine gd 79 ⟨?_⟩;refine ZP (ZQ p hp fl 2 (by omega)) rfl rfl rfl rfl (ZC p fl 2) Yt ?_;rintro r b' - - ⟨v3,hv3,rfl,rfl⟩;refine gd 82 ⟨?_⟩;obtain⟨s,hs1,hs2⟩:=ZiN (IntKind.u8.wrap (v3:Int)) (mkN n) (by omega);have hs3:s<=mkN n:=by rw [<- hs1]; exact Nat.left_le_or
   refine Zg rfl rfl rfl hs2 ?_;refine Zg rfl rfl rfl (show IntKind.u64.wrap ((s:Nat):Int)=((s:Nat):Int) from Y0x _ ⟨by omega,by omega⟩) ?_;clear hs2 hv3;refine gd 86 ⟨?_⟩;refine ZP (ZQ p hp fl 3 (by omega)) rfl rfl rfl rfl (ZC p fl 3) Yt ?_;rintro r b' - - ⟨v4,hv4,rfl,rfl⟩;refine Zg rfl rfl rfl (Z3o v4 7) ?_;have hc6:=Nat.mod_lt v4 (show 0<7 by decide);generalize v4 % 7=cnt at hc6 ⊢;clear hv4;refine gd 11 ⟨?_⟩;refine Zf (ZU (id:=2) (i0:=0) (j0:=3) rfl (Nat.le_of_ble_eq_true rfl) (Nat.le_of_ble_eq_true rfl) rfl 5 (by decide) (by decide)) ?_;refine go ?_;refine ZF hC (fun (z:Nat×Nat×List RU)=>z.1<=cnt/\z.2.1<=4+4*z.1/\z.2.2.length=z.1/\∀ r∈z.2.2,RuOk n r) (fun z=>cnt-z.1) 4 (fun z => [(2,.ptr 0 0 0),(3,.ptr 1 0 0),(4,.ptr 2 0 0),(5,.val (.int .u8 (mkN n:Nat))),(10,.val (.int .i64 (cnt:Int))),(11,Yv z.1)])
    (fun z => [(0,⟨6,[zpv [.int .i64 0,.slice none 0 0,.int .u64 0,.slice none 0 0,.slice none 0 0,.slice none 0 0]]⟩),(1,srcB p fl z.2.1),(2,⟨6,[[.val (.int .i64 (n:Int)),.vec (l.map prC) fk,.val (.int .u64 (s:Int)),.own 3,.vec [] true,.vec [] true]]⟩),(3,⟨5,z.2.2.map ruR⟩)]) (Y0l _) (0,3+1,[]) ⟨Y0l _,Y0m _,rfl,fun r hr=>by cases hr⟩ (fun i=>i) (fun _ _=>rfl) Zt
    ⟨Qt 0 0 0,Qt 1 0 0,Qt 2 0 0,Qp Yt,Qp Yt,Qp Yt,Yt⟩
    ⟨Qs ⟨⟨Yt,Yt,Yt,Yt,Yt,Yt,Yt⟩,Yt⟩,Qs (ZC p fl _),⟨by decide,_,rfl,RenB.single ⟨.pure _ Yt,.pure _ (Zl l),.pure _ Yt,.own (ρ:=fun i=>i) 3 (by decide),.pure _ Yt,.pure _ Yt,Yt⟩ rfl⟩,Qs Yt,Yt⟩ ?_
   rintro⟨i,t,rs⟩ ⟨hi,ht,hrl,hro⟩;dsimp only at hi ht hrl hro;have hinc:IntKind.i64.wrap ((i:Int)+1)=((i+1:Nat):Int):=Y0v _ ⟨by omega,by omega⟩;refine gd 90 ⟨?_⟩;refine Zq rfl rfl rfl (fun hb=>?_) (fun hb=>?_)
   . have hil : i < cnt := by have := Y0u hb; omega
     clear hb;refine gd 94 ⟨?_⟩;refine ZP (ZQ p hp fl t (by omega)) rfl rfl rfl rfl (ZC p fl _) Yt ?_;rintro r b' - - ⟨w1,hw1,rfl,rfl⟩;refine gd 96 ⟨?_⟩;refine ZP (ZQ p hp fl (t+1) (by omega)) rfl rfl rfl rfl (ZC p fl _) Yt ?_;rintro r b' - - ⟨w2,hw2,rfl,rfl⟩;refine gd 98 ⟨?_⟩;refine ZP (ZQ p hp fl (t+1+1) (by omega)) rfl rfl rfl rfl (ZC p fl _) Yt ?_;rintro r b' - - ⟨w3,hw3,rfl,rfl⟩;refine gd 100 ⟨?_⟩;refine ZP (ZQ p hp fl (t+1+1+1) (by omega)) rfl rfl rfl rfl (ZC p fl _) Yt ?_;rintro r b' - - ⟨w4,hw4,rfl,rfl⟩;refine gd 103 ⟨?_⟩;refine Z0 rfl rfl rfl ?_;generalize ((w1:Int).tmod 4 == 3)=rev;refine gd 107 ⟨?_⟩;refine Qo (ZcF rfl rfl (by omega)) ?_;rw [Z3o w2 n];have hw:=Nat.mod_lt w2 (show 0<n by omega);refine Zg rfl rfl rfl (show IntKind.i64.wrap (1+((w2 % n:Nat):Int))=((1+w2 % n:Nat):Int) from by rw [Y0v _ ⟨by omega,by omega⟩];omega) ?_;cases rev
     . refine gd 117 ⟨?_⟩;refine ZT rfl rfl (Z5t (w3:Int) (w4:Int) (mkN n) (by omega)) ⟨Yt,Yt,Yt,Yt⟩ rfl ?_;rintro r ⟨c,hc1,hc2,rfl⟩;refine gd 123 ⟨?_⟩
       refine ZD (Zx (k:=3) (m := [ruR (RU.mk false c (1+w2 % n) i)]) (fl:=true) rfl rfl rfl (fun q hq=>by rw [Y0g] at hq; subst hq; rfl) rfl (by
        show ((rs.map ruR).length+1)*40<=_
        rw [Y0f];omega)) rfl rfl ?_
       refine go ?_
       refine⟨(i+1,t+1+1+1+1,rs ++ [(RU.mk false c (1+w2 % n) i)]),mv 3 5,⟨by show i+1<=cnt; omega,by show t+1+1+1+1<=4+4*(i+1); omega,by rw [Y0e,hrl]; rfl,fun r hr=>(Y0h.1 hr).elim (hro r) fun e=>by
        rw [Y0g] at e; subst e
        exact RuOk.mk0 hn2.2 hc1 hm62 hc2 ⟨by omega,by omega⟩ (fun h=>by cases h)⟩,by show cnt-(i+1)<cnt-i; omega,fun i hi=>absurd hi (Nat.not_lt_zero i),Zy rfl,
        ⟨Qt 0 0 0,Qt 1 0 0,Qt 2 0 0,Qp Yt,Qp Yt,⟨_,by show some _=some _; rw [hinc],.pure _ Yt⟩,Yt⟩,
        ⟨Qs ⟨⟨Yt,Yt,Yt,Yt,Yt,Yt,Yt⟩,Yt⟩,Qs (ZC p fl _),⟨by decide,_,rfl,RenB.single ⟨.pure _ Yt,.pure _ (Zl l),.pure _ Yt,.own (ρ:=mv 3 5) 3 (by decide),.pure _ Yt,.pure _ Yt,Yt⟩ rfl⟩,⟨by decide,_,rfl,?_⟩,Yt⟩⟩
       show RenB _ _ ⟨5,rs.map ruR ++ [ruR (RU.mk false c (1+w2 % n) i)]⟩ ⟨5,(rs ++ [(RU.mk false c (1+w2 % n) i)]).map ruR⟩;rw [Y0r];exact .same _ (by rw [<- List.map_singleton,<- Y0r]; exact Z1v _)
     . refine gd 123 ⟨?_⟩
       refine ZD (Zx (k:=3) (m := [ruR (RU.mk true (0,0) (1+w2 % n) i)]) (fl:=true) rfl rfl rfl (fun q hq=>by rw [Y0g] at hq; subst hq; rfl) rfl (by
        show ((rs.map ruR).length+1)*40<=_
        rw [Y0f];omega)) rfl rfl ?_
       refine go ?_
       refine⟨(i+1,t+1+1+1+1,rs ++ [(RU.mk true (0,0) (1+w2 % n) i)]),mv 3 5,⟨by show i+1<=cnt; omega,by show t+1+1+1+1<=4+4*(i+1); omega,by rw [Y0e,hrl]; rfl,fun r hr=>(Y0h.1 hr).elim (hro r) fun e=>by
        rw [Y0g] at e; subst e
        exact RuOk.mk0 hn2.2 ⟨Nat.zero_or _,Nat.zero_or _⟩ hm62 rfl ⟨by omega,by omega⟩ (fun h=>rfl)⟩,by show cnt-(i+1)<cnt-i; omega,fun i hi=>absurd hi (Nat.not_lt_zero i),Zy rfl,
        ⟨Qt 0 0 0,Qt 1 0 0,Qt 2 0 0,Qp Yt,Qp Yt,⟨_,by show some _=some _; rw [hinc],.pure _ Yt⟩,Yt⟩,
        ⟨Qs ⟨⟨Yt,Yt,Yt,Yt,Yt,Yt,Yt⟩,Yt⟩,Qs (ZC p fl _),⟨by decide,_,rfl,RenB.single ⟨.pure _ Yt,.pure _ (Zl l),.pure _ Yt,.own (ρ:=mv 3 5) 3 (by decide),.pure _ Yt,.pure _ Yt,Yt⟩ rfl⟩,⟨by decide,_,rfl,?_⟩,Yt⟩⟩
       show RenB _ _ ⟨5,rs.map ruR ++ [ruR (RU.mk true (0,0) (1+w2 % n) i)]⟩ ⟨5,(rs ++ [(RU.mk true (0,0) (1+w2 % n) i)]).map ruR⟩;rw [Y0r];exact .same _ (by rw [<- List.map_singleton,<- Y0r]; exact Z1v _)
   . have hil : i = cnt := by have := of_decide_eq_false hb; omega
     clear hb hinc;rw [hil] at hrl;have ht28:t<=28:=by omega
     clear hi hil ht;refine gd 126 ⟨?_⟩;refine ZP (ZQ p hp fl t (by omega)) rfl rfl rfl rfl (ZC p fl _) Yt ?_;rintro r b' - - ⟨w1,hw1,rfl,rfl⟩;refine Zf (ZA (ob:=2) (id:=3) (i0:=0) (j0:=3) rfl rfl (by decide) (Z1v rs) (Nat.le_of_ble_eq_true rfl) (Nat.le_of_ble_eq_true rfl) rfl) ?_;refine Zg rfl rfl rfl (Z3o w1 4) ?_;have hv4:=Nat.mod_lt w1 (show 0<4 by decide);generalize w1 % 4=nvc at hv4 ⊢;clear hw1;refine gd 129 ⟨?_⟩;refine ZP (ZQ p hp fl (t+1) (by omega)) rfl rfl rfl rfl (ZC p fl _) Yt ?_;rintro r b' - - ⟨w1,hw1,rfl,rfl⟩;refine Zg rfl rfl rfl (Z3o w1 3) ?_;have hv3:=Nat.mod_lt w1 (show 0<3 by decide);refine Zg rfl rfl rfl (show IntKind.i64.wrap (1+((w1 % 3:Nat):Int))=((1+w1 % 3:Nat):Int) from by rw [Y0v _ ⟨by omega,by omega⟩];omega) ?_;obtain⟨glc,hglc⟩:∃ g,1+w1 % 3=g:=⟨_,rfl⟩
     rw [hglc];have hgl3:1<=glc/\glc<=3:=by omega
     clear hglc hv3 hw1;refine gd 19 ⟨?_⟩;refine Zf (ZU (id:=2) (i0:=0) (j0:=4) rfl (Nat.le_of_ble_eq_true rfl) (Nat.le_of_ble_eq_true rfl) rfl 2 (by decide) (by decide)) ?_;refine go ?_;refine ZF hC (fun (z:Nat×Nat×List Cu)=>z.1<=nvc/\z.2.1<=30+2*z.1/\z.2.2.length<=z.1/\∀ c∈z.2.2,InM (mkN n) c/\emC c=false/\hoC c (clo l s)=false) (fun z=>nvc-z.1) 5 (fun z => [(2,.ptr 0 0 0),(3,.ptr 1 0 0),(4,.ptr 2 0 0),(5,.val (.int .u8 (mkN n:Nat))),(17,.val (.int .i64 (nvc:Int))),(18,.val (.int .i64 (glc:Int))),(19,Yv z.1)])
      (fun z => [(0,⟨6,[zpv [.int .i64 0,.slice none 0 0,.int .u64 0,.slice none 0 0,.slice none 0 0,.slice none 0 0]]⟩),(1,srcB p fl z.2.1),(2,⟨6,[[.val (.int .i64 (n:Int)),.vec (l.map prC) fk,.val (.int .u64 (s:Int)),.vec (rs.map ruR) false,.own 4,.vec [] true]]⟩),(4,⟨2,z.2.2.map raC⟩)]) (Y0l _) (0,t+1+1,[]) ⟨Y0l _,by show t+1+1<=30+2*0; omega,Y0m _,fun r hr=>by cases hr⟩ (fun i=>i) (fun _ _=>rfl) Zt
      ⟨Qt 0 0 0,Qt 1 0 0,Qt 2 0 0,Qp Yt,Qp Yt,Qp Yt,Qp Yt,Yt⟩
      ⟨Qs ⟨⟨Yt,Yt,Yt,Yt,Yt,Yt,Yt⟩,Yt⟩,Qs (ZC p fl _),⟨by decide,_,rfl,RenB.single ⟨.pure _ Yt,.pure _ (Zl l),.pure _ Yt,.pure _ (Z1v rs),.own (ρ:=fun i=>i) 4 (by decide),.pure _ Yt,Yt⟩ rfl⟩,Qs Yt,Yt⟩ ?_
     clear ht28;rintro⟨i,t,nv⟩ ⟨hi,ht,hnl,hno⟩;dsimp only at hi ht hnl hno;have hinc:IntKind.i64.wrap ((i:Int)+1)=((i+1:Nat):Int):=Y0v _ ⟨by omega,by omega⟩;refine gd 134 ⟨?_⟩;refine Zq rfl rfl rfl (fun hb=>?_) (fun hb=>?_)
     . have hil : i < nvc := by have := Y0u hb; omega
       clear hb;refine gd 138 ⟨?_⟩;refine ZP (ZQ p hp fl t (by omega)) rfl rfl rfl rfl (ZC p fl _) Yt ?_;rintro r b' - - ⟨w1,hw1,rfl,rfl⟩;refine gd 140 ⟨?_⟩;refine ZP (ZQ p hp fl (t+1) (by omega)) rfl rfl rfl rfl (ZC p fl _) Yt ?_;rintro r b' - - ⟨w2,hw2,rfl,rfl⟩;refine gd 145 ⟨?_⟩;refine Qo (ZcF rfl rfl (by omega)) ?_;rw [Z3o i n];have hw:=Nat.mod_lt i (show 0<n by omega);refine Zg rfl rfl rfl (show IntKind.u64.wrap ((i % n:Nat):Int)=((i % n:Nat):Int) from Y0x _ ⟨by omega,by omega⟩) ?_;refine Z3Z rfl rfl (by omega) rfl rfl ?_;refine gd 151 ⟨?_⟩;refine ZT rfl rfl (Z5t _ (w2:Int) (mkN n) (by omega)) ⟨Yt,Yt,Yt,Yt⟩ rfl ?_;rintro r ⟨c,hc1,hc2,rfl⟩;have hcl:=Z2r l fk hgl.small s (by omega);have hc64:=hc1.lt (by omega);have hho:=Z3K c (clo l s) hc64 (Z51 _ _);refine gd 157 ⟨?_⟩;refine Qd hcl ⟨Zl _,Yt,Yt⟩ ?_;refine Qd hho ⟨Z2K c,Yt,Yt⟩ ?_;cases hb:hoC c (clo l s)
       . refine gd 164 ⟨?_⟩
         refine ZD (Zx (k:=4) (m := [raC c]) (fl:=true) rfl rfl rfl (fun q hq=>by rw [Y0g] at hq; subst hq; rfl) rfl (by
         show ((nv.map raC).length+1)*16<=_
         rw [Y0f];omega)) rfl rfl ?_
         refine go ?_
         refine⟨(i+1,t+1+1,nv ++ [c]),mv 4 14,⟨by show i+1<=nvc; omega,by show t+1+1<=30+2*(i+1); omega,by rw [Y0e]; show nv.length+1<=i+1; omega,fun c' hc'=>(Y0h.1 hc').elim (hno c') fun e=>by rw [Y0g] at e; subst e; exact⟨hc1,hc2,hb⟩⟩,by show nvc-(i+1)<nvc-i; omega,fun i hi=>absurd hi (Nat.not_lt_zero i),Zy rfl,
          ⟨Qt 0 0 0,Qt 1 0 0,Qt 2 0 0,Qp Yt,Qp Yt,Qp Yt,⟨_,by show some _=some _; rw [hinc],.pure _ Yt⟩,Yt⟩,
          ⟨Qs ⟨⟨Yt,Yt,Yt,Yt,Yt,Yt,Yt⟩,Yt⟩,Qs (ZC p fl _),⟨by decide,_,rfl,RenB.single ⟨.pure _ Yt,.pure _ (Zl l),.pure _ Yt,.pure _ (Z1v rs),.own (ρ:=mv 4 14) 4 (by decide),.pure _ Yt,Yt⟩ rfl⟩,⟨by decide,_,rfl,?_⟩,Yt⟩⟩
         show RenB _ _ ⟨2,nv.map raC ++ [raC c]⟩ ⟨2,(nv ++ [c]).map raC⟩;rw [Y0r];exact .same _ (by rw [<- List.map_singleton,<- Y0r]; exact Z1e _)
       . refine go ?_
         exact⟨(i+1,t+1+1,nv),fun i=>i,⟨by show i+1<=nvc; omega,by show t+1+1<=30+2*(i+1); omega,by show nv.length<=i+1; omega,hno⟩,by show nvc-(i+1)<nvc-i; omega,fun i hi=>rfl,Zt,
          ⟨Qt 0 0 0,Qt 1 0 0,Qt 2 0 0,Qp Yt,Qp Yt,Qp Yt,⟨_,by show some _=some _; rw [hinc],.pure _ Yt⟩,Yt⟩,
          ⟨Qs ⟨⟨Yt,Yt,Yt,Yt,Yt,Yt,Yt⟩,Yt⟩,Qs (ZC p fl _),⟨by decide,_,rfl,RenB.single ⟨.pure _ Yt,.pure _ (Zl l),.pure _ Yt,.pure _ (Z1v rs),.own (ρ:=fun i=>i) 4 (by decide),.pure _ Yt,Yt⟩ rfl⟩,Qs (Z1e _),Yt⟩⟩
     . have hil : i = nvc := by have := of_decide_eq_false hb; omega
       clear hb hinc;rw [hil] at hnl;have ht40:t<=40:=by omega
       clear hi hil ht;refine gd 23 ⟨?_⟩;refine Zf (ZA (ob:=2) (id:=4) (i0:=0) (j0:=4) rfl rfl (by decide) (Z1e nv) (Nat.le_of_ble_eq_true rfl) (Nat.le_of_ble_eq_true rfl) rfl) ?_;refine Zf (ZU (id:=2) (i0:=0) (j0:=5) rfl (Nat.le_of_ble_eq_true rfl) (Nat.le_of_ble_eq_true rfl) rfl 2 (by decide) (by decide)) ?_;refine go ?_;refine ZF hC (fun (z:Nat×Nat×List Cu)=>z.1<=glc/\z.2.1<=40+2*z.1/\z.2.2.length=z.1/\∀ c∈z.2.2,InM (mkN n) c/\emC c=false) (fun z=>glc-z.1) 6 (fun z => [(2,.ptr 0 0 0),(3,.ptr 1 0 0),(4,.ptr 2 0 0),(5,.val (.int .u8 (mkN n:Nat))),(18,.val (.int .i64 (glc:Int))),(23,Yv z.1)])
        (fun z => [(0,⟨6,[zpv [.int .i64 0,.slice none 0 0,.int .u64 0,.slice none 0 0,.slice none 0 0,.slice none 0 0]]⟩),(1,srcB p fl z.2.1),(2,⟨6,[[.val (.int .i64 (n:Int)),.vec (l.map prC) fk,.val (.int .u64 (s:Int)),.vec (rs.map ruR) false,.vec (nv.map raC) false,.own 5]]⟩),(5,⟨2,z.2.2.map raC⟩)]) (Y0l _) (0,t,[]) ⟨Y0l _,by show t<=40+2*0; omega,rfl,fun r hr=>by cases hr⟩ (fun i=>i) (fun _ _=>rfl) Zt
        ⟨Qt 0 0 0,Qt 1 0 0,Qt 2 0 0,Qp Yt,Qp Yt,Qp Yt,Yt⟩
        ⟨Qs ⟨⟨Yt,Yt,Yt,Yt,Yt,Yt,Yt⟩,Yt⟩,Qs (ZC p fl _),⟨by decide,_,rfl,RenB.single ⟨.pure _ Yt,.pure _ (Zl l),.pure _ Yt,.pure _ (Z1v rs),.pure _ (Z1e nv),.own (ρ:=fun i=>i) 5 (by decide),Yt⟩ rfl⟩,Qs Yt,Yt⟩ ?_
       clear ht40;rintro⟨i,t,gs⟩ ⟨hi,ht,hgn,hgo⟩;dsimp only at hi ht hgn hgo;have hinc:IntKind.i64.wrap ((i:Int)+1)=((i+1:Nat):Int):=Y0v _ ⟨by omega,by omega⟩;refine gd 168 ⟨?_⟩;refine Zq rfl rfl rfl (fun hb=>?_) (fun hb=>?_)
       . have hil : i < glc := by have := Y0u hb; omega
         clear hb;refine gd 172 ⟨?_⟩;refine ZP (ZQ p hp fl t (by omega)) rfl rfl rfl rfl (ZC p fl _) Yt ?_;rintro r b' - - ⟨w1,hw1,rfl,rfl⟩;refine gd 174 ⟨?_⟩;refine ZP (ZQ p hp fl (t+1) (by omega)) rfl rfl rfl rfl (ZC p fl _) Yt ?_;rintro r b' - - ⟨w2,hw2,rfl,rfl⟩;refine gd 180 ⟨?_⟩;refine Z4s rfl rfl (.inl rfl) (Z5t (w1:Int) (w2:Int) (mkN n) (by omega)) ⟨Yt,Yt,Yt,Yt⟩ ?_;rintro r ⟨c,hc1,hc2,rfl⟩;refine gd 182 ⟨?_⟩
         refine Qr (Zx (k:=5) (m := [raC c]) (fl:=true) rfl rfl rfl (fun q hq=>by rw [Y0g] at hq; subst hq; rfl) rfl (by
          show ((gs.map raC).length+1)*16<=_
          rw [Y0f];omega)) ?_
         refine go ?_
         refine⟨(i+1,t+1+1,gs ++ [c]),mv 5 13,⟨by show i+1<=glc; omega,by show t+1+1<=40+2*(i+1); omega,by rw [Y0e,hgn]; rfl,fun c' hc'=>(Y0h.1 hc').elim (hgo c') fun e=>by rw [Y0g] at e; subst e; exact⟨hc1,hc2⟩⟩,by show glc-(i+1)<glc-i; omega,fun i hi=>absurd hi (Nat.not_lt_zero i),Zy rfl,
          ⟨Qt 0 0 0,Qt 1 0 0,Qt 2 0 0,Qp Yt,Qp Yt,⟨_,by show some _=some _; rw [hinc],.pure _ Yt⟩,Yt⟩,
          ⟨Qs ⟨⟨Yt,Yt,Yt,Yt,Yt,Yt,Yt⟩,Yt⟩,Qs (ZC p fl _),⟨by decide,_,rfl,RenB.single ⟨.pure _ Yt,.pure _ (Zl l),.pure _ Yt,.pure _ (Z1v rs),.pure _ (Z1e nv),.own (ρ:=mv 5 13) 5 (by decide),Yt⟩ rfl⟩,⟨by decide,_,rfl,?_⟩,Yt⟩⟩
         show RenB _ _ ⟨2,gs.map raC ++ [raC c]⟩ ⟨2,(gs ++ [c]).map raC⟩;rw [Y0r];exact .same _ (by rw [<- List.map_singleton,<- Y0r]; exact Z1e _)
       . have hil : i = glc := by have := of_decide_eq_false hb; omega
         clear hb hinc;rw [hil] at hgn;refine gd 184 ⟨?_⟩;refine Zf (ZA (ob:=2) (id:=5) (i0:=0) (j0:=5) rfl rfl (by decide) (Z1e gs) (Nat.le_of_ble_eq_true rfl) (Nat.le_of_ble_eq_true rfl) rfl) ?_;refine go ?_;have hlo1:lowLL (l.map prC)=l.map prC:=Z58 (fun _=>rfl) l;have hlo2:lowLL (rs.map ruR)=rs.map ruR:=Z58 (fun _=>rfl) rs;have hlo3:∀ x:List Cu,lowLL (x.map raC)=x.map raC:=Z58 (fun _=>rfl);have hcI:∀ c:Cu,InM (mkN n) c->InM 62 c:=fun c hc=>⟨Z4d hc.1 hm62,Z4d hc.2 hm62⟩
         have hOk:MkOk ⟨n,l,s,rs,nv,gs⟩:=by
          refine⟨⟨⟨by show 1<=n; omega,by show n<=63; omega⟩,hgl,fun p hp=>?_,hs1,by show rs.length<=64; omega,hro,by show nv.length<=64; omega,fun c hc=>⟨(hno c hc).1.inC (hno c hc).2.1,hcI c (hno c hc).1⟩,by show gs.length<=64; omega,fun c hc=>⟨(hgo c hc).1.inC (hgo c hc).2,hcI c (hgo c hc).1⟩,?_⟩,hn2,by show rs.length<=6; omega,by show nv.length<=3; omega,by show 1<=gs.length/\gs.length<=3; omega⟩
          . have := hlm p hp;show p.1<=n/\p.2<=n/\p.1<=5/\p.2<=5;omega
          . show soC nv (clo l s) = false;refine Bool.eq_false_iff.2 fun h=>?_;obtain⟨c,hc,h⟩:=Y01.1 h;rw [(hno c hc).2.2] at h; cases h
         have he:(PV.agg [.val (.int .i64 (n:Int)),.vec (l.map prC) fk,.val (.int .u64 (s:Int)),.vec (rs.map ruR) false,.vec (nv.map raC) false,.vec (gs.map raC) false]).low=.agg (pbR ⟨n,l,s,rs,nv,gs⟩):=by
          show PV.agg [.val (.int .i64 (n:Int)),.vec (lowLL (l.map prC)) false,.val (.int .u64 (s:Int)),.vec (lowLL (rs.map ruR)) false,.vec (lowLL (nv.map raC)) false,.vec (lowLL (gs.map raC)) false]=_;rw [hlo1,hlo2,hlo3,hlo3]; rfl
         refine Z1a (r:=.agg [.val (.int .i64 (n:Int)),.vec (l.map prC) fk,.val (.int .u64 (s:Int)),.vec (rs.map ruR) false,.vec (nv.map raC) false,.vec (gs.map raC) false]) rfl ?_ ⟨_,hOk,he⟩;rw [he];exact Z3n _
theorem Z8H (l:List RU):(l.map ruR).length=l.length:=by simp
theorem Z5I:∀ {l m:List Pr},SortedP l->SortedP m->l.Perm m->l=m
 | [],m,_,_,h=>(List.Perm.nil_eq h)
 | a :: l,[],_,_,h=>by have:=h.length_eq; simp at this
 | a :: l, b :: m, h1, h2, h => by
   have h1':=List.pairwise_cons.1 h1;have h2':=List.pairwise_cons.1 h2;have hab:a=b:=by
    rcases List.mem_cons.1 (h.mem_iff.1 (Y0t (a:=a) (l:=l))) with e|ha
    . exact e
    rcases List.mem_cons.1 (h.mem_iff.2 (Y0t (a:=b) (l:=m))) with e|hb
    . exact e.symm
    have x1:=h1'.1 b hb;have x2:=h2'.1 a ha;omega
   subst hab;rw [Z5I h1'.2 h2'.2 (List.Perm.cons_inv h)]
theorem SortedP.tk {l:List Pr} (h:SortedP l) (i:Nat):SortedP (l.take i):=List.Pairwise.sublist (List.take_sublist i l) h
theorem SortedP.nd {l:List Pr} (h:SortedP l):l.Nodup:=List.Pairwise.imp (fun {a b} h e=>by subst e;omega) h
theorem ZcG {l:List Pr} (h:GoodL l):l.length<=4096:=by
 have hn:(l.map fun p=>p.1*64+p.2).Nodup:=by
  rw [List.nodup_iff_pairwise_ne,List.pairwise_map];refine List.Pairwise.imp_of_mem (fun {a b} ha hb hab=>?_) h.asc;have h1:=h.small a ha;have h2:=h.small b hb;show a.1*64+a.2≠b.1*64+b.2;omega
 have:=Z2o 4096 _ hn fun x hx=>by
  obtain⟨p,hp,rfl⟩:=Y0i.1 hx;have:=h.small p hp;show p.1*64+p.2<4096;omega
 rwa [Y0f] at this
theorem Z14 {α:Type} {l:List α} {i:Nat} (hi:i<l.length):l.take (i+1)=l.take i ++ [l[i]]:=by rw [List.take_add_one,Y0c hi]; rfl
theorem Z9D {t:PB} (h:PbOk t):Spec Tryz.prog 21 [.agg (pbR t)] fun r=>∃ S,r=.tup [.agg (pbP t S),.val (.bool true)]:=by
 have hpr:=Z3n t;have hgl:=h.good;have hll:=ZcG hgl;have hnl:=Z2j t.l;have hst:t.st<18446744073709551616:=by
  have h1:t.st<=mkN t.n:=by rw [<- h.st]; exact Nat.left_le_or
  have:=Z4o h.n.2;omega
 have hpl:∀ D,innLL D (t.l.map prC):=fun D=>Zb (fun _ h=>h.elim) _ (Zl t.l);have hpc:∀ D,innL D (pbR t):=fun D=>Zv (fun _ h=>h.elim) _ hpr;have hhp:∀ D l S,(hierP l S).inn D:=fun D l S=>PV.inn_mono (fun _ h=>h.elim) _ (Zw l S);have hcu:∀ (l:List Cu) D,innLL D (l.map cuC):=fun l D=>Zb (fun _ h=>h.elim) _ (Z1H l);refine Yp ok21 fun C hC=>?_;refine Zs ?_;refine Zc ?_;refine Z5 rfl rfl rfl ?_;refine gd 13 ⟨?_⟩;refine Z4s rfl rfl (.inl rfl) Z5H Yt ?_;rintro r ⟨S0,rfl⟩;refine gd 16 ⟨?_⟩;refine Qd (Z5r t.st hst) ⟨Yt,Yt⟩ ?_;refine gd 19 ⟨?_⟩;refine Qd (Z5G t.nv false h.nv64 (by have:=h.nl;omega)) ⟨Z1e _,Yt⟩ ?_;refine gd 22 ⟨?_⟩;refine Qd (Z5G t.gl false h.gl64 (by have:=h.gk;omega)) ⟨Z1e _,Yt⟩ ?_;refine go ?_;refine Zn hC (fun (z:Nat×List Nat)=>z.1<=t.l.length) (fun z=>t.l.length-z.1) 16 (fun z => [(1,.cp (pbR t)),(2,.ptr 0 0 0),(4,.ptr 14 0 0),(25,.vec (t.l.map prC) false),(26,.val (.int .i64 t.l.length)),(27,Yv z.1)])
  (fun z => [(0,⟨6,[zpv [.int .i64 0,.pointer none,.slice none 0 0,.slice none 0 0,.slice none 0 0,.slice none 0 0]]⟩),(14,⟨6,[[.val (.int .i64 (t.n:Int)),hierP (t.l.take z.1) z.2,.vec (words (digs t.st)) false,.vec [] true,.vec (t.nv.map cuC) false,.vec (t.gl.map cuC) false]]⟩)]) (Y0l _) (0,S0) (Y0l _)
  ⟨⟨rfl,hpc _⟩,⟨rfl,show (0:Nat)<16 by decide⟩,⟨rfl,show (14:Nat)<16 by decide⟩,⟨rfl,hpl _⟩,⟨by rw [<- hnl]; rfl,Yt⟩,⟨rfl,Yt⟩,Yt⟩
  ⟨⟨by decide,rfl,⟨⟨Yt,Yt,Yt,Yt,Yt,Yt,Yt⟩,Yt⟩⟩,⟨by decide,rfl,⟨⟨Yt,hhp _ _ _,Zj _ _,Yt,hcu _ _,hcu _ _,Yt⟩,Yt⟩⟩,Yt⟩ ?_
 rintro⟨i,S⟩ hi;dsimp only at hi;have hinc:IntKind.i64.wrap ((i:Int)+1)=((i+1:Nat):Int):=Y0v _ ⟨by omega,by omega⟩;refine gd 28 ⟨?_⟩;refine Zq rfl rfl rfl (fun hb=>?_) (fun hb=>?_)
 . have hil : i < t.l.length := by have := Y0u hb; omega
   have htk:=Z14 hil;have hro:=hgl.role _ (Y0j hil);have hsub:∀ p∈t.l.take i ++ [t.l[i]],p∈t.l:=fun p hp=>by rw [<- htk] at hp; exact List.mem_of_mem_take hp
   have hno:t.l[i] ∉ t.l.take i:=fun h=>by
    have hnd:=SortedP.nd (SortedP.tk hgl.asc (i+1));rw [htk,List.nodup_append] at hnd;exact hnd.2.2 _ h _ (Y0g.2 rfl) rfl
   clear hb;refine go ?_;refine Qo (Zm (xs:=t.l) (g:=prC) rfl rfl i rfl hil rfl) ?_;generalize t.l[i]=p at htk hro hsub hno ⊢;have hls:=Zfs (t.l.take i) S p.1 p.2 (by omega) (by omega) hro.2.2.2.2 (fun q hq=>hgl.small q (List.mem_of_mem_take hq)) (SortedP.nd (SortedP.tk hgl.asc i)) hno (hgl.acy.sub hsub) (by rw [Y0o];omega);refine gd 38 ⟨?_⟩;refine ZT rfl rfl hls ⟨Zw _ _,Yt,Yt,Yt⟩ rfl ?_;rintro r ⟨l',S',hpm,hst,rfl⟩;have hle:l'=t.l.take (i+1):=by
    have hx1:l'.Perm (t.l.take (i+1)):=by rw [htk]; exact hpm
    exact Z5I hst (SortedP.tk hgl.asc (i+1)) hx1
   subst hle;refine go ?_
   exact⟨(i+1,S'),hil,by show t.l.length-(i+1)<t.l.length-i; omega,⟨⟨rfl,hpc _⟩,⟨rfl,show (0:Nat)<16 by decide⟩,⟨rfl,show (14:Nat)<16 by decide⟩,⟨rfl,hpl _⟩,⟨rfl,Yt⟩,⟨by show some _=some _; rw [hinc],Yt⟩,Yt⟩,
    ⟨⟨by decide,rfl,⟨⟨Yt,Yt,Yt,Yt,Yt,Yt,Yt⟩,Yt⟩⟩,⟨by decide,rfl,⟨⟨Yt,hhp _ _ _,Zj _ _,Yt,hcu _ _,hcu _ _,Yt⟩,Yt⟩⟩,Yt⟩⟩
 . have hil : i = t.l.length := by have := of_decide_eq_false hb; omega
   subst hil;clear hb hinc hi;rw [Y0q];refine gd 50 ⟨?_⟩;refine Zf (ZU (id:=14) (i0:=0) (j0:=3) rfl (Nat.le_of_ble_eq_true rfl) (Nat.le_of_ble_eq_true rfl) rfl 5 (by decide) (by decide)) ?_;refine go ?_;have hnr:=Z8H t.rs;have hrl:=h.rl;refine ZF hC (fun (i:Nat)=>i<=t.rs.length) (fun i=>t.rs.length-i) 17 (fun i => [(2,.ptr 0 0 0),(4,.ptr 14 0 0),(48,.vec (t.rs.map ruR) false),(49,.val (.int .i64 (t.rs.length:Int))),(50,Yv i)])
    (fun i => [(0,⟨6,[zpv [.int .i64 0,.pointer none,.slice none 0 0,.slice none 0 0,.slice none 0 0,.slice none 0 0]]⟩),(14,⟨6,[[.val (.int .i64 (t.n:Int)),hierP t.l S,.vec (words (digs t.st)) false,.own 16,.vec (t.nv.map cuC) false,.vec (t.gl.map cuC) false]]⟩),(16,⟨5,(t.rs.take i).map ruP⟩)]) (Y0l _) 0 (Y0l _) (fun i=>i) (fun _ _=>rfl) Zt
    ⟨Qt 0 0 0,Qt 14 0 0,Qp (Z1v _),⟨_,by rw [<- hnr]; rfl,.pure _ Yt⟩,Qp Yt,Yt⟩
    ⟨Qs ⟨⟨Yt,Yt,Yt,Yt,Yt,Yt,Yt⟩,Yt⟩,⟨by decide,_,rfl,RenB.single ⟨.pure _ Yt,.pure _ (Zw _ _),.pure _ (Za _),.own (ρ:=fun i=>i) 16 (by decide),.pure _ (Z1H _),.pure _ (Z1H _),Yt⟩ rfl⟩,Qs Yt,Yt⟩ ?_
   intro i hi;have hinc:IntKind.i64.wrap ((i:Int)+1)=((i+1:Nat):Int):=Y0v _ ⟨by omega,by omega⟩;refine gd 51 ⟨?_⟩;by_cases hil:i<t.rs.length
   . have htk := Z14 hil;have hcu64:=(h.rs _ (Y0j hil)).cu.lt h.n.2;refine Qo (Qy rfl (Int.ofNat_lt.2 hil)) ?_;refine go ?_;refine Qo (Zm (xs:=t.rs) (g:=ruR) rfl rfl i rfl hil rfl) ?_;generalize t.rs[i]=x at htk hcu64 ⊢;refine gd 57 ⟨?_⟩;refine Zd rfl rfl rfl ?_;refine gd 60 ⟨?_⟩;refine Qd (Z6G x.cu hcu64) ⟨Z2K _,Yt⟩ ?_;refine gd 67 ⟨?_⟩
     refine Qr (Zx (k:=16) (m := [ruP x]) (fl:=true) rfl rfl rfl (fun q hq=>by rw [Y0g] at hq; subst hq; rfl) rfl (by
      show (((t.rs.take i).map ruP).length+1)*72<=_
      rw [Y0f,Y0o];omega)) ?_
     refine go ?_
     refine⟨i+1,mv 16 31,hil,by show t.rs.length-(i+1)<t.rs.length-i; omega,fun i hi=>absurd hi (Nat.not_lt_zero i),Zy rfl,
      ⟨Qt 0 0 0,Qt 14 0 0,Qp (Z1v _),Qp Yt,⟨_,by show some _=some _; rw [hinc],.pure _ Yt⟩,Yt⟩,
      ⟨Qs ⟨⟨Yt,Yt,Yt,Yt,Yt,Yt,Yt⟩,Yt⟩,⟨by decide,_,rfl,RenB.single ⟨.pure _ Yt,.pure _ (Zw _ _),.pure _ (Za _),.own (ρ:=mv 16 31) 16 (by decide),.pure _ (Z1H _),.pure _ (Z1H _),Yt⟩ rfl⟩,⟨by decide,_,rfl,?_⟩,Yt⟩⟩
     show RenB _ _ ⟨5,(t.rs.take i).map ruP ++ [ruP x]⟩ ⟨5,(t.rs.take (i+1)).map ruP⟩;rw [htk,Y0r];exact .same _ (by rw [<- List.map_singleton,<- Y0r]; exact ZX _)
   . have hil : i = t.rs.length := by omega
     subst hil;rw [Y0q];refine Zf (ZA (ob:=14) (id:=16) (i0:=0) (j0:=3) rfl rfl (by decide) (ZX t.rs) (Nat.le_of_ble_eq_true rfl) (Nat.le_of_ble_eq_true rfl) rfl) ?_;refine Qo (Qz rfl (Int.lt_irrefl _)) ?_
     repeat' (first|refine Z2l [] [(0,16)] [63,63,63,63,47,63] (by kernel_rfl) ?_|(first|refine st ?_|(apply B<;>intro hb<;>try cases hb)))
     exact Z7 rfl ⟨ZL t S,Yt,Yt⟩ ⟨S,rfl⟩
theorem ZdO (p:List Nat) (fl:Bool) (hp:Bytes p):Spec Tryz.prog 7 [.vec (bys p) fl] fun r=>∃ t S,MkOk t/\r=.tup [.agg (pbP t S),.agg (pbR t),.val (.bool true)]:=by
 refine Yp ok7 fun C hC=>?_;refine gd 9 ⟨?_⟩;refine ZT rfl rfl (Zbe p fl hp) ⟨Zi p,Yt⟩ rfl ?_;rintro r ⟨t,ht,rfl⟩;have hpr:=Z3n t;refine gd 12 ⟨?_⟩;refine ZT rfl rfl (Z9D ht.ok) ⟨hpr,Yt⟩ rfl ?_;rintro r ⟨S,rfl⟩;have hpp:=ZL t S
 repeat' (first|refine Z2l [] [(0,8)] [63,63,63,55,63,63] (by kernel_rfl) ?_|(first|refine st ?_|(apply B<;>intro hb<;>try cases hb)))
 exact Z7 rfl ⟨hpp,hpr,Yt,Yt⟩ ⟨t,S,ht,rfl⟩
theorem Zbf {α:Type} (p:α->Bool) (xs:List α):(!xs.any fun x => !p x)=xs.all p:=by
 induction xs with
 | nil=>rfl
 | cons x xs ih=>rw [List.any_cons,List.all_cons,Bool.not_or,ih,Bool.not_not]
theorem Z6O {n:Nat} {e:Env} {h:Heap} {a:Operand} {l:List PV} (ha:ev e a=some (.agg l)) (hl:0<l.length):fEval (.box a) e h n=some (.cp l,h):=by
 simp only [fEval,ha];rw [if_pos (by show (true&&decide (0<l.length))=true; rw [decide_eq_true hl]; rfl)]
 rfl
theorem Z6P {α:Type} (xs:List α) (enc:α->List PV) (fl:Bool) (g:Nat) (caps:List PV) (p:α->Bool) (hl:∀ x,(enc x).length=5) (hp:∀ x,pureL (enc x)) (hc:pureL caps) (hg:∀ x∈xs,Spec Tryz.prog g (.agg (enc x) :: caps) (· = .val (.bool (p x)))) :
 Spec Tryz.prog 164 [.vec (xs.map enc) fl,.fn g caps] (· = .val (.int .i64 (idxI p xs))):=by
 refine Yp ok164 fun C hC=>?_;refine Z2Z (k:=0) rfl fun hmax=>?_;have hnl:(xs.map enc).length=xs.length:=by simp
 have hlm:xs.length<=maxVec:=by simpa using hmax
 refine go ?_;refine Z3c (fun i=>i<=xs.length/\(xs.take i).any p=false) (fun i=>xs.length-i) (fun i => [(0,.vec (xs.map enc) fl),(1,.fn g caps),(7,.val (.int .i64 (xs.length:Int))),(8,Yv i)]) 0 ⟨Y0l _,rfl⟩ ⟨rfl,rfl,by rw [<- hnl]; rfl,rfl,Yt⟩ ?_;rintro i ⟨hi,hno⟩;have hinc:IntKind.i64.wrap ((i:Int)+1)=((i+1:Nat):Int):=Y0v _ ⟨by omega,by simp only [maxVec] at hlm; omega⟩;(refine go ?_;repeat' (apply B<;>intro hb<;>try cases hb))
 . have hil : i < xs.length := by simpa using hb
   refine Qo (Zm (xs:=xs) rfl rfl i rfl hil (hl _)) ?_;refine Qo (Z48 rfl (hl _)) ?_;refine Qe (hg _ (Y0j hil)) ⟨hp _,hc⟩ ?_;refine Z1s ?_;refine Z4q rfl (fun hx=>?_) (fun hx=>?_)
   . refine go ?_;exact Z7 rfl Yt (by rw [Z4y hil hno hx])
   . (refine go ?_;repeat' (apply B<;>intro hb<;>try cases hb));exact⟨i+1,⟨by omega,Z3i hil hno hx⟩,by omega,rfl,rfl,⟨rfl,rfl,rfl,by show some _=some _; rw [hinc],Yt⟩⟩
 . have hil : i = xs.length := by simp at hb; omega
   subst hil;rw [Y0q] at hno;exact Z7 rfl Yt (by rw [Z2e hno]; rfl)
theorem Z59 {α:Type} (xs:List α) (enc:α->List PV) (fl:Bool) (g:Nat) (caps:List PV) (p:α->Bool) (hl:∀ x,(enc x).length=5) (hp:∀ x,pureL (enc x)) (hc:pureL caps) (hg:∀ x∈xs,Spec Tryz.prog g (.agg (enc x) :: caps) (· = .val (.bool (p x)))) :
 Spec Tryz.prog 137 [.vec (xs.map enc) fl,.fn g caps] (· = .val (.bool (xs.any p))):=by
 refine Yp ok137 fun C hC=>?_;refine go ?_;refine Qe (Z6P xs enc fl g caps p hl hp hc hg) ⟨Z9 hp xs,hc,Yt⟩ ?_;refine Qo (Z4 rfl (Z4X (p:=p) (xs:=xs))) ?_;(refine go ?_;repeat' (apply B<;>intro hb<;>try cases hb))
 all_goals exact Z7 rfl Yt (by rw [hb])
theorem Z6Q {α:Type} (xs:List α) (enc:α->List PV) (fl:Bool) (g:Nat) (caps:List PV) (p:α->Bool) (hl:∀ x,(enc x).length=2) (hp:∀ x,pureL (enc x)) (hc:pureL caps) (hg:∀ x∈xs,Spec Tryz.prog g (.agg (enc x) :: caps) (· = .val (.bool (p x)))) :
 Spec Tryz.prog 186 [.vec (xs.map enc) fl,.fn g caps] (· = .val (.int .i64 (idxI p xs))):=by
 refine Yp ok186 fun C hC=>?_;refine Z2Z (k:=0) rfl fun hmax=>?_;have hnl:(xs.map enc).length=xs.length:=by simp
 have hlm:xs.length<=maxVec:=by simpa using hmax
 refine go ?_;refine Z3c (fun i=>i<=xs.length/\(xs.take i).any p=false) (fun i=>xs.length-i) (fun i => [(0,.vec (xs.map enc) fl),(1,.fn g caps),(7,.val (.int .i64 (xs.length:Int))),(8,Yv i)]) 0 ⟨Y0l _,rfl⟩ ⟨rfl,rfl,by rw [<- hnl]; rfl,rfl,Yt⟩ ?_;rintro i ⟨hi,hno⟩;have hinc:IntKind.i64.wrap ((i:Int)+1)=((i+1:Nat):Int):=Y0v _ ⟨by omega,by simp only [maxVec] at hlm; omega⟩;(refine go ?_;repeat' (apply B<;>intro hb<;>try cases hb))
 . have hil : i < xs.length := by simpa using hb
   refine Qo (Zm (xs:=xs) rfl rfl i rfl hil (hl _)) ?_;refine Qo (Z48 rfl (hl _)) ?_;refine Qe (hg _ (Y0j hil)) ⟨hp _,hc⟩ ?_;refine Z1s ?_;refine Z4q rfl (fun hx=>?_) (fun hx=>?_)
   . refine go ?_;exact Z7 rfl Yt (by rw [Z4y hil hno hx])
   . (refine go ?_;repeat' (apply B<;>intro hb<;>try cases hb));exact⟨i+1,⟨by omega,Z3i hil hno hx⟩,by omega,rfl,rfl,⟨rfl,rfl,rfl,by show some _=some _; rw [hinc],Yt⟩⟩
 . have hil : i = xs.length := by simp at hb; omega
   subst hil;rw [Y0q] at hno;exact Z7 rfl Yt (by rw [Z2e hno]; rfl)
theorem Z5a {α:Type} (xs:List α) (enc:α->List PV) (fl:Bool) (g:Nat) (caps:List PV) (p:α->Bool) (hl:∀ x,(enc x).length=2) (hp:∀ x,pureL (enc x)) (hc:pureL caps) (hg:∀ x∈xs,Spec Tryz.prog g (.agg (enc x) :: caps) (· = .val (.bool (p x)))) :
 Spec Tryz.prog 161 [.vec (xs.map enc) fl,.fn g caps] (· = .val (.bool (xs.any p))):=by
 refine Yp ok161 fun C hC=>?_;refine go ?_;refine Qe (Z6Q xs enc fl g caps p hl hp hc hg) ⟨Z9 hp xs,hc,Yt⟩ ?_;refine Qo (Z4 rfl (Z4X (p:=p) (xs:=xs))) ?_;(refine go ?_;repeat' (apply B<;>intro hb<;>try cases hb))
 all_goals exact Z7 rfl Yt (by rw [hb])
theorem ZdP {α:Type} (enc:α->List PV) (g:Nat) (caps:List PV) (p:α->Bool) (hl:∀ x,(enc x).length=5) (hp:∀ x,pureL (enc x)) (hc:pureL caps) (x:α) (hg:Spec Tryz.prog g (.agg (enc x) :: caps) (· = .val (.bool (p x)))) :
 Spec Tryz.prog 138 [.agg (enc x),.cp [.fn g caps]] (· = .val (.bool (!p x))):=by
 refine Yp ok138 fun C hC=>?_;refine Zs ?_;refine Zc ?_;refine Z5 (Z6O rfl (by rw [hl]; decide)) rfl rfl ?_;refine gd 5 ⟨?_⟩;refine Qo (Z48 rfl (hl _)) ?_;refine Qe hg ⟨hp _,hc⟩ ?_;generalize p x=b;cases b
 all_goals
  refine go ?_;exact Z7 rfl Yt rfl
theorem Z9E {α:Type} (xs:List α) (enc:α->List PV) (fl:Bool) (g:Nat) (caps:List PV) (p:α->Bool) (hl:∀ x,(enc x).length=5) (hp:∀ x,pureL (enc x)) (hc:pureL caps) (hg:∀ x∈xs,Spec Tryz.prog g (.agg (enc x) :: caps) (· = .val (.bool (p x)))) :
 Spec Tryz.prog 94 [.vec (xs.map enc) fl,.fn g caps] (· = .val (.bool (xs.all p))):=by
 have hcs:pureL [PV.cp [PV.fn g caps]]:=⟨⟨hc,Yt⟩,Yt⟩
 have h1:=Z59 xs enc fl 138 [.cp [.fn g caps]] (fun x => !p x) hl hp hcs fun x hx=>ZdP enc g caps p hl hp hc x (hg x hx);rw [<- Zbf];refine Yp ok94 fun C hC=>?_;refine Zs ?_;refine Zc ?_;refine Z5 rfl rfl rfl ?_;refine gd 7 ⟨?_⟩;refine Qe h1 ⟨Z9 hp xs,hcs,Yt⟩ ?_;generalize (xs.any fun x => !p x)=b;cases b
 all_goals
  refine go ?_;exact Z7 rfl Yt rfl
theorem ZdQ {α:Type} (enc:α->List PV) (g:Nat) (caps:List PV) (p:α->Bool) (hl:∀ x,(enc x).length=2) (hp:∀ x,pureL (enc x)) (hc:pureL caps) (x:α) (hg:Spec Tryz.prog g (.agg (enc x) :: caps) (· = .val (.bool (p x)))) :
 Spec Tryz.prog 162 [.agg (enc x),.cp [.fn g caps]] (· = .val (.bool (!p x))):=by
 refine Yp ok162 fun C hC=>?_;refine Zs ?_;refine Zc ?_;refine Z5 (Z6O rfl (by rw [hl]; decide)) rfl rfl ?_;refine gd 5 ⟨?_⟩;refine Qo (Z48 rfl (hl _)) ?_;refine Qe hg ⟨hp _,hc⟩ ?_;generalize p x=b;cases b
 all_goals
  refine go ?_;exact Z7 rfl Yt rfl
theorem Zfz {α:Type} (xs:List α) (enc:α->List PV) (fl:Bool) (g:Nat) (caps:List PV) (p:α->Bool) (hl:∀ x,(enc x).length=2) (hp:∀ x,pureL (enc x)) (hc:pureL caps) (hg:∀ x∈xs,Spec Tryz.prog g (.agg (enc x) :: caps) (· = .val (.bool (p x)))) :
 Spec Tryz.prog 131 [.vec (xs.map enc) fl,.fn g caps] (· = .val (.bool (xs.all p))):=by
 have hcs:pureL [PV.cp [PV.fn g caps]]:=⟨⟨hc,Yt⟩,Yt⟩
 have h1:=Z5a xs enc fl 162 [.cp [.fn g caps]] (fun x => !p x) hl hp hcs fun x hx=>ZdQ enc g caps p hl hp hc x (hg x hx);rw [<- Zbf];refine Yp ok131 fun C hC=>?_;refine Zs ?_;refine Zc ?_;refine Z5 rfl rfl rfl ?_;refine gd 7 ⟨?_⟩;refine Qe h1 ⟨Z9 hp xs,hcs,Yt⟩ ?_;generalize (xs.any fun x => !p x)=b;cases b
 all_goals
  refine go ?_;exact Z7 rfl Yt rfl
theorem ZdR {α:Type} (enc:α->List PV) (g:Nat) (caps:List PV) (p:α->Bool) (hl:∀ x,(enc x).length=2) (hp:∀ x,pureL (enc x)) (hc:pureL caps) (x:α) (hg:Spec Tryz.prog g (.agg (enc x) :: caps) (· = .val (.bool (p x)))) :
 Spec Tryz.prog 163 [.agg (enc x),.cp [.fn g caps]] (· = .val (.bool (!p x))):=by
 refine Yp ok163 fun C hC=>?_;refine Zs ?_;refine Zc ?_;refine Z5 (Z6O rfl (by rw [hl]; decide)) rfl rfl ?_;refine gd 5 ⟨?_⟩;refine Qo (Z48 rfl (hl _)) ?_;refine Qe hg ⟨hp _,hc⟩ ?_;generalize p x=b;cases b
 all_goals
  refine go ?_;exact Z7 rfl Yt rfl
theorem ZfA {α:Type} (xs:List α) (enc:α->List PV) (fl:Bool) (g:Nat) (caps:List PV) (p:α->Bool) (hl:∀ x,(enc x).length=2) (hp:∀ x,pureL (enc x)) (hc:pureL caps) (hg:∀ x∈xs,Spec Tryz.prog g (.agg (enc x) :: caps) (· = .val (.bool (p x)))) :
 Spec Tryz.prog 134 [.vec (xs.map enc) fl,.fn g caps] (· = .val (.bool (xs.all p))):=by
 have hcs:pureL [PV.cp [PV.fn g caps]]:=⟨⟨hc,Yt⟩,Yt⟩
 have h1:=Z1X xs enc fl 163 [.cp [.fn g caps]] (fun x => !p x) hl hp hcs fun x hx=>ZdR enc g caps p hl hp hc x (hg x hx);rw [<- Zbf];refine Yp ok134 fun C hC=>?_;refine Zs ?_;refine Zc ?_;refine Z5 rfl rfl rfl ?_;refine gd 7 ⟨?_⟩;refine Qe h1 ⟨Z9 hp xs,hcs,Yt⟩ ?_;generalize (xs.any fun x => !p x)=b;cases b
 all_goals
  refine go ?_;exact Z7 rfl Yt rfl
abbrev RI:=Bool×Cu×Int×Int
def ruI (x:RI):List PV := [.val (.bool x.1),.vec (words (digs x.2.1.1)) false,.vec (words (digs x.2.1.2)) false,.val (.int .i64 x.2.2.1),.val (.int .i64 x.2.2.2)]
def toI (r:RU):RI:=(r.rev,r.cu,(r.tg:Int),(r.og:Int))
theorem Z8I (x:RI):pureL (ruI x):=⟨Yt,Za _,Za _,Yt,Yt,Yt⟩
theorem Z3N (l:List RI):pureLL (l.map ruI):=Z9 Z8I l
noncomputable def prbI (n:Int) (l:List Pr) (S:List Nat) (s0:Nat) (rs:List RI) (nv gl:List Cu):List PV := [.val (.int .i64 n),hierP l S,.vec (words (digs s0)) false,.vec (rs.map ruI) false,.vec (nv.map cuC) false,.vec (gl.map cuC) false]
theorem Z6R (n:Int) (l:List Pr) (S:List Nat) (s0:Nat) (rs:List RI) (nv gl:List Cu):pureL (prbI n l S s0 rs nv gl):=⟨Yt,Zw _ _,Za _,Z3N _,Z1H _,Z1H _,Yt⟩
theorem Zkq (t:PB) (S:List Nat):pbP t S=prbI t.n t.l S t.st (t.rs.map toI) t.nv t.gl:=by
 unfold pbP prbI;rw [List.map_map]; rfl
def cubI (rs:List RI) (nv gl:List Cu):List Cu:=rs.map (·.2.1)++nv++gl
theorem Z7P (n:Int) (l:List Pr) (S:List Nat) (s0:Nat) (rs:List RI) (nv gl:List Cu) (h1:rs.length<=10000) (h2:nv.length<=10000) (h3:gl.length<=10000):Spec Tryz.prog 93 [.agg (prbI n l S s0 rs nv gl)] (· = .vec ((cubI rs nv gl).map cuC) false):=by
 have hpp:=Z6R n l S s0 rs nv gl;have hrl:(rs.map ruI).length=rs.length:=by simp
 refine Yp ok93 fun C hC=>?_;refine Zs ?_;refine Zc ?_;refine Z5 rfl rfl rfl ?_
 repeat' (first|refine Zf (ZG (k:=3) rfl 2 (by decide)) ?_|(first|refine st ?_|(apply B<;>intro hb<;>try cases hb)))
 refine ZF hC (fun (i:Nat)=>i<=rs.length) (fun i=>rs.length-i) 1 (fun i => [(1,.cp (prbI n l S s0 rs nv gl)),(3,.own 0),(7,.vec (rs.map ruI) false),(8,.val (.int .i64 (rs.length:Int))),(9,Yv i)])
  (fun i => [(0,⟨2,((rs.take i).map (·.2.1)).map cuC⟩)]) (Y0l _) 0 (Y0l _) (fun i=>i) (fun _ _=>rfl) Zt
  ⟨Qp hpp,⟨_,rfl,.own 0 (by decide)⟩,Qp (Z3N _),⟨_,by rw [<- hrl]; rfl,.pure _ Yt⟩,Qp Yt,Yt⟩ ⟨Qs Yt,Yt⟩ ?_
 intro i hi;have hinc:IntKind.i64.wrap ((i:Int)+1)=((i+1:Nat):Int):=Y0v _ ⟨by omega,by omega⟩
 iterate 2 (first|refine st ?_|(apply B<;>intro hb<;>try cases hb))
 refine Zq rfl rfl rfl (fun hb=>?_) (fun hb=>?_)
 . have hil : i < rs.length := by have := Y0u hb; omega
   have htake:=Z14 hil;clear hb;refine go ?_;refine Qo (Zm (xs:=rs) (g:=ruI) rfl rfl i rfl hil rfl) ?_;generalize rs[i]=x at htake ⊢;refine gd 17 ⟨?_⟩
   refine ZD (Zx (k:=0) (m := [cuC x.2.1]) (fl:=true) rfl rfl rfl (fun c hc=>by rw [Y0g] at hc; subst hc; rfl) rfl (by
    show ((((rs.take i).map (·.2.1)).map cuC).length+1)*48<=_;rw [Y0f,Y0f,Y0o]
    omega)) rfl rfl ?_
   refine go ?_
   refine⟨i+1,mv 0 2,by omega,by omega,fun i hi=>absurd hi (Nat.not_lt_zero i),Zy rfl,
    ⟨Qp hpp,⟨_,rfl,.own 0 (by decide)⟩,Qp (Z3N _),Qp Yt,⟨_,by show some _=some _; rw [hinc],.pure _ Yt⟩,Yt⟩,
    ⟨⟨by decide,_,rfl,?_⟩,Yt⟩⟩
   show RenB _ _ ⟨2,((rs.take i).map (·.2.1)).map cuC ++ [cuC x.2.1]⟩ ⟨2,((rs.take (i+1)).map (·.2.1)).map cuC⟩;rw [htake,Y0r,Y0r];exact .same _ (by show pureLL (((rs.take i).map (·.2.1)).map cuC ++ [x.2.1].map cuC); rw [<- Y0r]; exact Z2 _)
 . have hil : i = rs.length := by have := of_decide_eq_false hb; omega
   subst hil;clear hb;rw [Y0q]
   repeat' (first|refine Z2l [6] [(0,8)] [255,255,255,247,255,255,255,255] (by kernel_rfl) ?_|refine Z8d 22 ?_|(first|refine st ?_|(apply B<;>intro hb<;>try cases hb)))
   refine At.mk ?_
   refine Qr (Zx (k:=0) (m:=nv.map cuC) (fl:=false) rfl rfl rfl (fun c hc=>by obtain⟨x,_,rfl⟩:=Y0i.1 hc; rfl) rfl (by
    show (((rs.map (·.2.1)).map cuC).length+(nv.map cuC).length)*48<=_
    rw [Y0f,Y0f,Y0f];omega)) ?_
   have happ:((rs.map (·.2.1)).map cuC++nv.map cuC)++gl.map cuC=(cubI rs nv gl).map cuC:=by
    unfold cubI;rw [Y0r,Y0r]
   refine gd 25 ⟨?_⟩
   refine Zat (k:=4) (m:=gl.map cuC) (fl:=false) (b:=⟨2,(rs.map (·.2.1)).map cuC++nv.map cuC⟩) rfl rfl rfl (fun c hc=>by obtain⟨x,_,rfl⟩:=Y0i.1 hc; rfl) rfl (by
    show ((((rs.map (·.2.1)).map cuC)++nv.map cuC).length+(gl.map cuC).length)*48<=_
    rw [Y0e,Y0f,Y0f,Y0f,Y0f];omega) (by show pureLL (((rs.map (·.2.1)).map cuC++nv.map cuC)++gl.map cuC); rw [happ]; exact Z2 _) rfl rfl ?_
   refine go ?_;refine Z7 (r:=.vec (((rs.map (·.2.1)).map cuC++nv.map cuC)++gl.map cuC) false) rfl ?_ ?_
   . rw [happ]; exact Z2 _
   . rw [happ]
theorem Zbg (m:Nat) (hm:m<18446744073709551616) (p:Pr):Spec Tryz.prog 132 [.agg (prC p),.cp [.vec (words (digs m)) false]] (· = .val (.bool (m.testBit p.1&&m.testBit p.2))):=by
 refine Yp ok132 fun C hC=>?_;refine Zs ?_;refine Zc ?_;refine Z5 rfl rfl rfl ?_;refine gd 7 ⟨?_⟩;refine Qe (Z2f m hm p.1) ⟨Z1 _,Yt,Yt⟩ ?_;generalize m.testBit p.1=b;cases b
 . refine go ?_;exact Z7 rfl Yt rfl
 . refine gd 12 ⟨?_⟩;refine Zo rfl ?_;refine Qe (Z2f m hm p.2) ⟨Z1 _,Yt,Yt⟩ ?_;generalize m.testBit p.2=b;cases b
   all_goals
    refine go ?_;exact Z7 rfl Yt rfl
theorem Zbh (m:Nat) (hm:m<18446744073709551616) (x:RI):Spec Tryz.prog 133 [.agg (ruI x),.cp [.vec (words (digs m)) false]] (· = .val (.bool (decide (0<=x.2.2.1)&&m.testBit x.2.2.1.toNat))):=by
 refine Yp ok133 fun C hC=>?_;refine Zs ?_;refine Zc ?_;refine Z5 rfl rfl rfl ?_;refine gd 7 ⟨?_⟩;refine Qe (Z1G m hm x.2.2.1) ⟨Z1 _,Yt,Yt⟩ ?_;generalize (decide (0<=x.2.2.1)&&m.testBit x.2.2.1.toNat)=b;cases b
 all_goals
  refine go ?_;exact Z7 rfl Yt rfl
theorem Zbi (m:Nat) (hm:m<18446744073709551616) (c:Cu) (hc:Ok64 c):Spec Tryz.prog 135 [.agg (cuC c),.cp [.vec (words (digs m)) false]] (· = .val (.bool (decide (c.1 ||| c.2 ||| m=m)))):=by
 refine Yp ok135 fun C hC=>?_;refine Zs ?_;refine Zc ?_;refine Z5 rfl rfl rfl ?_;refine gd 8 ⟨?_⟩;refine Qd (Z1j c.1 c.2 hc.1 hc.2) ⟨Z1 _,Z1 _,Yt⟩ ?_;refine gd 10 ⟨?_⟩;refine Qd (Z1i (c.1 ||| c.2) m (Z24 hc.1 hc.2) hm) ⟨Z1 _,Z1 _,Yt⟩ ?_;generalize decide (c.1 ||| c.2 ||| m=m)=b;cases b
 all_goals
  refine go ?_;exact Z7 rfl Yt rfl
def knB (m:Nat) (l:List Pr) (s0:Nat) (rs:List RI) (cs:List Cu):Bool:=decide (s0 ||| m=m)&&(l.all (fun p=>m.testBit p.1&&m.testBit p.2)&&(rs.all (fun x=>decide (0<=x.2.2.1)&&m.testBit x.2.2.1.toNat)&&cs.all fun c=>decide (c.1 ||| c.2 ||| m=m)))
structure Fine (l:List Pr) (s0:Nat) (rs:List RI) (nv gl:List Cu):Prop where
 fl:l.length<=10000
 fs:s0<18446744073709551616
 fr:rs.length<=10000
 fv:nv.length<=10000
 fg:gl.length<=10000
 fc:∀ c∈cubI rs nv gl,Ok64 c
theorem ZdS (n:Nat) (h1:1<=n) (h2:n<=63) (l:List Pr) (S:List Nat) (s0:Nat) (rs:List RI) (nv gl:List Cu) (hf:Fine l s0 rs nv gl):Spec Tryz.prog 91 [.agg (prbI (n:Int) l S s0 rs nv gl)] (· = .val (.bool (knB (mkN n) l s0 rs (cubI rs nv gl)))):=by
 have hp1:2 ^ (n+1)<=2 ^ 64:=Nat.pow_le_pow_right (by decide) (by omega);have hp0:=Nat.two_pow_pos (n+1);have hmk:=Z4o h2;have hinc0:IntKind.i64.wrap ((n:Int)+1)=((n+1:Nat):Int):=Y0v _ ⟨by omega,by omega⟩;have hbw:=Z10 (2 ^ (n+1)-1) (by omega) 0;rw [Z56 n h2] at hbw;have hw:=Z1i s0 (mkN n) hf.fs hmk;have hc1:pureL [PV.vec (words (digs (mkN n))) false]:=⟨Za _,Yt⟩
 have hcc:pureL [PV.cp [PV.vec (words (digs (mkN n))) false]]:=⟨hc1,Yt⟩
 have hl:=Z7M l S (by have:=hf.fl;omega);have ha1:=Zfz l prC false 132 [.cp [.vec (words (digs (mkN n))) false]] _ (fun _=>rfl) (fun x=>Z45 x) hcc fun p _=>Zbg (mkN n) hmk p;have ha2:=Z9E rs ruI false 133 [.cp [.vec (words (digs (mkN n))) false]] _ (fun _=>rfl) Z8I hcc fun p _=>Zbh (mkN n) hmk p;have hcb:=Z7P (n:Int) l S s0 rs nv gl hf.fr hf.fv hf.fg;have ha3:=ZfA (cubI rs nv gl) cuC false 135 [.cp [.vec (words (digs (mkN n))) false]] _ (fun _=>rfl) Ze hcc fun p hp=>Zbi (mkN n) hmk p (hf.fc p hp);have hpp:=Z6R (n:Int) l S s0 rs nv gl;refine Yp ok91 fun C hC=>?_;refine Zs ?_;refine Zc ?_;refine Z5 rfl rfl rfl ?_;refine gd 6 ⟨?_⟩;refine Zg rfl rfl rfl hinc0 ?_;refine Qe (Z36 (n+1) (by omega) (by omega)) ⟨Yt,Yt⟩ ?_;refine Qe hbw ⟨Z1 _,Yt,Yt⟩ ?_;refine gd 9 ⟨?_⟩;refine Zf (Z1E (k:=3) rfl rfl hc1) ?_;refine gd 12 ⟨?_⟩;refine Qe hw ⟨Z1 _,Z1 _,Yt⟩ ?_;unfold knB;generalize decide (s0 ||| mkN n=mkN n)=b1;cases b1
 . refine go ?_;exact Z7 rfl Yt rfl
 refine gd 16 ⟨?_⟩;refine Zo rfl ?_;refine Qe hl ⟨Zw _ _,Yt⟩ ?_;refine gd 18 ⟨?_⟩;refine Zo rfl ?_;refine Qe ha1 ⟨Zl l,hcc,Yt⟩ ?_;generalize (l.all fun p=>(mkN n).testBit p.1&&(mkN n).testBit p.2)=b2;cases b2
 . refine go ?_;exact Z7 rfl Yt rfl
 refine gd 24 ⟨?_⟩;refine Zo rfl ?_;refine Qe ha2 ⟨Z3N rs,hcc,Yt⟩ ?_;generalize (rs.all fun x=>decide (0<=x.2.2.1)&&(mkN n).testBit x.2.2.1.toNat)=b3;cases b3
 . refine go ?_;exact Z7 rfl Yt rfl
 refine gd 28 ⟨?_⟩;refine Zo rfl ?_;refine Qe hcb ⟨hpp,Yt⟩ ?_;refine gd 30 ⟨?_⟩;refine Zo rfl ?_;refine Qe ha3 ⟨Z2 _,hcc,Yt⟩ ?_;generalize ((cubI rs nv gl).all fun c=>decide (c.1 ||| c.2 ||| mkN n=mkN n))=b4;cases b4
 all_goals
  refine go ?_;exact Z7 rfl Yt rfl
def revB (x:RI):Bool := !x.1||(decide (x.2.1.1=0)&&decide (x.2.1.2=0))
theorem Zbj (x:RI) (hc:Ok64 x.2.1):Spec Tryz.prog 89 [.agg (ruI x)] (· = .val (.bool (revB x))):=by
 obtain⟨rv,c,tg,og⟩:=x;have e1:=Z5m c.1 hc.1;have e2:=Z5m c.2 hc.2;unfold revB;refine Yp ok89 fun C hC=>?_;refine Zs ?_;refine Zc ?_;refine Z5 rfl rfl rfl ?_;cases rv
 . refine go ?_;exact Z7 rfl Yt rfl
 refine gd 10 ⟨?_⟩;refine Zo rfl ?_;refine Qe e1 ⟨Z1 _,Yt⟩ ?_;dsimp only;generalize decide (c.1=0)=b1;cases b1
 . refine go ?_;exact Z7 rfl Yt rfl
 refine gd 15 ⟨?_⟩;refine Zo rfl ?_;refine Qe e2 ⟨Z1 _,Yt⟩ ?_;generalize decide (c.2=0)=b2;cases b2
 all_goals
  refine go ?_;exact Z7 rfl Yt rfl
theorem ZdT (n:Int) (l:List Pr) (S:List Nat) (s0:Nat) (rs:List RI) (nv gl:List Cu) (h64:∀ c∈nv,Ok64 c) (s:Nat) (hs:s<18446744073709551616):Spec Tryz.prog 38 [.agg (prbI n l S s0 rs nv gl),setN s] (· = .val (.bool (!soC nv (clo l s)))):=by
 have hc:=Z1P l S s hs;have hso:=Z5p nv false (clo l s) h64 (Z51 _ _);refine Yp ok38 fun C hC=>?_;refine Zs ?_;refine Zc ?_;refine Z5 rfl rfl rfl ?_;refine Z5 rfl rfl rfl ?_;refine gd 14 ⟨?_⟩;refine Z2R rfl ?_;refine Qd hc ⟨Zw _ _,Z1 _,Yt⟩ ?_;refine gd 15 ⟨?_⟩;refine Z2R rfl ?_;refine Qd hso ⟨Z1H _,Z1 _,Yt⟩ ?_;generalize soC nv (clo l s)=b;cases b
 all_goals
  refine go ?_;exact Z7 rfl Yt rfl
noncomputable def chkI (n:Int) (l:List Pr) (s0:Nat) (rs:List RI) (nv gl:List Cu):Int :=
 if n<1 \/ 63<n then 1 else
 if 64<rs.length \/ 2000<nv.length \/ 2000<gl.length then 3 else
 if knB (mkN n.toNat) l s0 rs (cubI rs nv gl)=false then 4 else
 if (cubI rs nv gl).any emC=true \/ rs.all revB=false then 6 else
 if soC nv (clo l s0)=true then 7 else 0
theorem Zbk (n:Int) (l:List Pr) (S:List Nat) (s0:Nat) (rs:List RI) (nv gl:List Cu) (hf:Fine l s0 rs nv gl):Spec Tryz.prog 40 [.agg (prbI n l S s0 rs nv gl)] (· = .val (.int .i64 (chkI n l s0 rs nv gl))):=by
 have hpp:=Z6R n l S s0 rs nv gl;have hr1:(rs.map ruI).length=rs.length:=by simp
 have hr2:(nv.map cuC).length=nv.length:=by simp
 have hr3:(gl.map cuC).length=gl.length:=by simp
 have hcb:=Z7P n l S s0 rs nv gl hf.fr hf.fv hf.fg;have hn64:∀ c∈nv,Ok64 c:=fun c hc=>hf.fc c (Y0h.2 (.inl (Y0h.2 (.inr hc))));have hr64:∀ x∈rs,Ok64 x.2.1:=fun x hx=>hf.fc _ (Y0h.2 (.inl (Y0h.2 (.inl (Y0i.2 ⟨x,hx,rfl⟩)))));have hce:=Z1X (cubI rs nv gl) cuC false 76 [] emC (fun _=>rfl) Ze Yt fun c hc=>Z18 c (hf.fc c hc);have har:=Z9E rs ruI false 89 [] revB (fun _=>rfl) Z8I Yt fun x hx=>Zbj x (hr64 x hx);have hgo:=ZdT n l S s0 rs nv gl hn64 s0 hf.fs;unfold chkI;refine Yp ok40 fun C hC=>?_;refine Zs ?_;refine Zc ?_;refine Z5 rfl rfl rfl ?_;refine gd 11 ⟨?_⟩;refine Zo rfl ?_;by_cases h1:n<1
 . rw [if_pos (.inl h1)];refine Qo (Qy rfl h1) ?_;refine go ?_;exact Z7 rfl Yt rfl
 refine Qo (Qz rfl h1) ?_;refine gd 16 ⟨?_⟩;refine Zo rfl ?_;by_cases h2:63<n
 . rw [if_pos (.inr h2)];refine Qo (Qy rfl h2) ?_;refine go ?_;exact Z7 rfl Yt rfl
 refine Qo (Qz rfl h2) ?_;rw [if_neg (show ¬ (n<1 \/ 63<n) by omega)];refine gd 22 ⟨?_⟩;by_cases h3:64<rs.length
 . rw [if_pos (.inl h3)];refine Qo (Qy rfl (by rw [hr1];omega)) ?_;refine go ?_;exact Z7 rfl Yt rfl
 refine Qo (Qz rfl (by rw [hr1];omega)) ?_;refine gd 27 ⟨?_⟩;refine Zo rfl ?_;by_cases h4:2000<nv.length
 . rw [if_pos (.inr (.inl h4))];refine Qo (Qy rfl (by rw [hr2];omega)) ?_;refine go ?_;exact Z7 rfl Yt rfl
 refine Qo (Qz rfl (by rw [hr2];omega)) ?_;refine gd 33 ⟨?_⟩;refine Zo rfl ?_;by_cases h5:2000<gl.length
 . rw [if_pos (.inr (.inr h5))];refine Qo (Qy rfl (by rw [hr3];omega)) ?_;refine go ?_;exact Z7 rfl Yt rfl
 refine Qo (Qz rfl (by rw [hr3];omega)) ?_;rw [if_neg (show ¬ (64<rs.length \/ 2000<nv.length \/ 2000<gl.length) by omega)];obtain⟨k,rfl⟩:∃ k:Nat,n=(k:Int):=⟨n.toNat,by omega⟩
 have hkn:=ZdS k (by omega) (by omega) l S s0 rs nv gl hf;rw [Int.toNat_natCast];refine gd 37 ⟨?_⟩;refine Qe hkn ⟨hpp,Yt⟩ ?_;generalize knB (mkN k) l s0 rs (cubI rs nv gl)=b1;cases b1
 . rw [if_pos rfl];refine go ?_;exact Z7 rfl Yt rfl
 rw [if_neg (by decide)];refine gd 41 ⟨?_⟩;refine Qe hcb ⟨hpp,Yt⟩ ?_;refine Qe hce ⟨Z2 _,Yt,Yt⟩ ?_;generalize (cubI rs nv gl).any emC=b2;cases b2
 case true =>
  rw [if_pos (.inl rfl)];refine go ?_;exact Z7 rfl Yt rfl
 refine gd 47 ⟨?_⟩;refine Zo rfl ?_;refine Qe har ⟨Z3N rs,Yt,Yt⟩ ?_;generalize rs.all revB=b3;cases b3
 . rw [if_pos (.inr rfl)];refine go ?_;exact Z7 rfl Yt rfl
 rw [if_neg (by simp)];refine gd 54 ⟨?_⟩;refine Qe hgo ⟨hpp,Z1 _,Yt⟩ ?_;generalize soC nv (clo l s0)=b4;cases b4
 . rw [if_neg (by decide)];refine go ?_;exact Z7 rfl Yt rfl
 . rw [if_pos rfl];refine go ?_;exact Z7 rfl Yt rfl
theorem ZiO {t:PB} (h:PbOk t):Fine t.l t.st (t.rs.map toI) t.nv t.gl:=by
 have h1:=h.rl;have h2:=h.nl;have h3:=h.gk;refine⟨Y03 (ZcG h.good) (by decide),?_,by rw [Y0f]; omega,by omega,by omega,fun c hc=>?_⟩
 . have h1 : t.st <= mkN t.n := by rw [<- h.st]; exact Nat.left_le_or
   have:=Z4o h.n.2;omega
 . unfold cubI at hc;rw [Y0h,Y0h,List.map_map,Y0i] at hc;rcases hc with (⟨x,hx,rfl⟩|hc)|hc
   . exact (h.rs x hx).cu.lt h.n.2
   . exact h.nv64 c hc
   . exact h.gl64 c hc
theorem ZjK {n:Nat} {c:Cu} (h:InC n c):c.1 ||| c.2 ||| mkN n=mkN n:=by rw [Nat.or_assoc,h.n,h.y]
theorem ZcH {t:PB} (h:PbOk t):∀ c∈cubI (t.rs.map toI) t.nv t.gl,InC t.n c:=fun c hc=>by
 unfold cubI at hc;rw [Y0h,Y0h,List.map_map,Y0i] at hc;rcases hc with (⟨x,hx,rfl⟩|hc)|hc
 . exact (h.rs x hx).cu
 . exact (h.nv c hc).1
 . exact (h.gl c hc).1
theorem ZjL {t:PB} (h:PbOk t):chkI t.n t.l t.st (t.rs.map toI) t.nv t.gl=0:=by
 have hn:=h.n;have h1:=h.rl;have h2:=h.nl;have h3:=h.gk;unfold chkI;rw [if_neg (by omega),if_neg (by rw [Y0f];omega),Int.toNat_natCast];have hk:knB (mkN t.n) t.l t.st (t.rs.map toI) (cubI (t.rs.map toI) t.nv t.gl)=true:=by
  unfold knB;rw [decide_eq_true h.st,Bool.true_and,Y0k,Y0k,List.all_eq_true,List.all_eq_true,List.all_eq_true];refine⟨fun p hp=>?_,fun x hx=>?_,fun c hc=>decide_eq_true (ZjK (ZcH h c hc))⟩
  . have ha := h.lk p hp;have hb:=h.good.role p hp;rw [Z2k,Z2k,decide_eq_true (show 1<=p.1 by omega),decide_eq_true ha.1,decide_eq_true (show 1<=p.2 by omega),decide_eq_true ha.2.1]; rfl
  . obtain ⟨r, hr, rfl⟩ := Y0i.1 hx;have ht:=(h.rs r hr).tg;show (decide (0<=(r.tg:Int))&&(mkN t.n).testBit (r.tg:Int).toNat)=true;rw [Int.toNat_natCast,decide_eq_true (Int.natCast_nonneg _),Z2k,decide_eq_true ht.1,decide_eq_true ht.2.1]; rfl
 rw [hk,if_neg (by decide)];have he:(cubI (t.rs.map toI) t.nv t.gl).any emC=false:=Bool.eq_false_iff.2 fun h0=>by
  obtain⟨c,hc,h1⟩:=Y01.1 h0;rw [(ZcH h c hc).e] at h1; cases h1
 have hr:(t.rs.map toI).all revB=true:=by
  rw [List.all_eq_true];intro x hx;obtain⟨r,hr,rfl⟩:=Y0i.1 hx;unfold revB;show (!r.rev||(decide (r.cu.1=0)&&decide (r.cu.2=0)))=true;cases hv:r.rev with
  | false=>rfl
  | true=>rw [(h.rs r hr).rv hv]; rfl
 rw [he,hr,if_neg (by simp),h.sg,if_neg (by decide)]
theorem Z8J {t:PB} (h:PbOk t) (S:List Nat):Spec Tryz.prog 40 [.agg (pbP t S)] (· = .val (.int .i64 0)):=by
 have:=Zbk t.n t.l S t.st (t.rs.map toI) t.nv t.gl (ZiO h)
 rwa [ZjL h,<- Zkq] at this
noncomputable def expAll (t:PB) (l:List Cu):List Cu:=l.flatMap (exL t.l t.n)
def splAll (bad l:List Cu):List Cu:=l.flatMap (splL bad)
theorem Z5b {α:Type} {f:α->List Cu} {k:Nat}:∀ {l:List α},(∀ x∈l,(f x).length<=k)->(l.flatMap f).length<=k*l.length
 | [],_=>by simp
 | x :: l, h => by
   rw [List.flatMap_cons,Y0e,Y04,Nat.mul_succ];have h1:=h x (Y0t ..);have h2:=Z5b (l:=l) fun y hy=>h y (List.mem_cons_of_mem _ hy);omega
theorem Z5u {t:PB} (h:PbOk t) (l:List Cu) (hl:∀ c∈l,InC t.n c/\InM 62 c):(expAll t l).length<=64*l.length:=Z5b fun c hc=>(Z7O h (hl c hc).2).2.2.1
theorem Zbl {l:List Cu} {c:Cu} (hl:∀ b∈l,InM 62 b) (hc:InM 62 c):Dis (splL l c)/\(∀ c'∈splL l c,InM 62 c')/\(splL l c).length<=64:=by
 have h1:=Zfw (m:=62) (by decide) hl hc l.length;have he:splT l c l.length=splL l c:=by unfold splT splL; rw [Y0q]
 rw [he] at h1;exact⟨h1.1,h1.2,Zb8 h1.1 h1.2 (by decide)⟩
theorem Z5v {bad:List Cu} (hb:∀ b∈bad,InM 62 b) (l:List Cu) (hl:∀ c∈l,InM 62 c):(splAll bad l).length<=64*l.length:=Z5b fun c hc=>(Zbl hb (hl c hc)).2.2
theorem Z5J {t:PB} (h:PbOk t) (S:List Nat) (l:List Cu) (fl:Bool) (hl:∀ c∈l,InC t.n c/\InM 62 c) (hlen:l.length<=10000):Spec Tryz.prog 98 [.agg (pbP t S),.vec (l.map cuC) fl] (· = .tup [.vec ((expAll t l).map cuC) false,.val (.int .i64 0)]):=by
 have hnl:(l.map cuC).length=l.length:=by simp
 have hpp:=ZL t S;refine Yp ok98 fun C hC=>?_;refine Zs ?_;refine Zc ?_;refine Z5 rfl rfl rfl ?_
 repeat' (first|refine Zf (ZG (k:=6) rfl 2 (by decide)) ?_|(first|refine st ?_|(apply B<;>intro hb<;>try cases hb)))
 refine ZF hC (fun (i:Nat)=>i<=l.length) (fun i=>l.length-i) 1 (fun i => [(2,.cp (pbP t S)),(6,.own 0),(11,.vec (l.map cuC) fl),(12,.val (.int .i64 (l.length:Int))),(13,Yv i)])
  (fun i => [(0,⟨2,(expAll t (l.take i)).map cuC⟩)]) (Y0l _) 0 (Y0l _) (fun i=>i) (fun _ _=>rfl) Zt
  ⟨Qp hpp,⟨_,rfl,.own 0 (by decide)⟩,Qp (Z2 _),⟨_,by rw [<- hnl]; rfl,.pure _ Yt⟩,Qp Yt,Yt⟩ ⟨Qs Yt,Yt⟩ ?_
 intro i hi;have hinc:IntKind.i64.wrap ((i:Int)+1)=((i+1:Nat):Int):=Y0v _ ⟨by omega,by omega⟩
 iterate 2 (first|refine st ?_|(apply B<;>intro hb<;>try cases hb))
 refine Zq rfl rfl rfl (fun hb=>?_) (fun hb=>?_)
 . have hil : i < l.length := by have := Y0u hb; omega
   have htake:=Z14 hil;clear hb;have hci:=hl _ (Y0j hil);have hacc:=Z5u h (l.take i) (fun c hc=>hl c (List.mem_of_mem_take hc));rw [Y0o] at hacc;refine go ?_;refine Qo (Zm (xs:=l) (g:=cuC) rfl rfl i rfl hil rfl) ?_;generalize l[i]=x at htake hci ⊢;have hone:=(Z7O h hci.2).2.2.1;have hsn:expAll t (l.take (i+1))=expAll t (l.take i)++exL t.l t.n x:=by rw [htake]; unfold expAll; rw [List.flatMap_append]; simp
   generalize expAll t (l.take i)=acc at hacc hsn ⊢;refine gd 20 ⟨?_⟩;refine Qe (Z57 h S x hci.1 hci.2) ⟨hpp,Zu _,Yt⟩ ?_;refine gd 28 ⟨?_⟩
   refine ZD (Zx (k:=0) (m:=(exL t.l t.n x).map cuC) (fl:=false) rfl rfl rfl (fun c hc=>by obtain⟨y,_,rfl⟩:=Y0i.1 hc; rfl) rfl (by
    show ((acc.map cuC).length+((exL t.l t.n x).map cuC).length)*48<=_;rw [Y0f,Y0f]
    omega)) rfl rfl ?_
   refine go ?_
   refine⟨i+1,mv 0 2,by omega,by omega,fun i hi=>absurd hi (Nat.not_lt_zero i),Zy rfl,
    ⟨Qp hpp,⟨_,rfl,.own 0 (by decide)⟩,Qp (Z2 _),Qp Yt,⟨_,by show some _=some _; rw [hinc],.pure _ Yt⟩,Yt⟩,
    ⟨⟨by decide,_,rfl,?_⟩,Yt⟩⟩
   show RenB _ _ ⟨2,acc.map cuC++(exL t.l t.n x).map cuC⟩ ⟨2,(expAll t (l.take (i+1))).map cuC⟩;rw [hsn,Y0r];exact .same _ (by rw [<- Y0r]; exact Z2 _)
 . have hil : i = l.length := by have := of_decide_eq_false hb; omega
   subst hil;clear hb;rw [Y0q]
   repeat' (first|refine Zf (Zp (k:=6) rfl rfl (Z2 _)) ?_|(first|refine st ?_|(apply B<;>intro hb<;>try cases hb)))
   exact Z7 rfl ⟨Z2 _,Yt,Yt⟩ rfl
theorem Z6S (bad l:List Cu) (f2 fl:Bool) (hb0:∀ b∈bad,InM 62 b) (hbl:bad.length<=100000) (hl:∀ c∈l,InM 62 c) (hlen:l.length<=10000):Spec Tryz.prog 99 [.vec (l.map cuC) fl,.vec (bad.map cuC) f2] (· = .tup [.vec ((splAll bad l).map cuC) false,.val (.int .i64 0)]):=by
 have hnl:(l.map cuC).length=l.length:=by simp
 refine Yp ok99 fun C hC=>?_
 repeat' (first|refine Zf (ZG (k:=6) rfl 2 (by decide)) ?_|(first|refine st ?_|(apply B<;>intro hb<;>try cases hb)))
 refine ZF hC (fun (i:Nat)=>i<=l.length) (fun i=>l.length-i) 1 (fun i => [(1,.vec (bad.map cuC) f2),(6,.own 0),(11,.vec (l.map cuC) fl),(12,.val (.int .i64 (l.length:Int))),(13,Yv i)])
  (fun i => [(0,⟨2,(splAll bad (l.take i)).map cuC⟩)]) (Y0l _) 0 (Y0l _) (fun i=>i) (fun _ _=>rfl) Zt
  ⟨Qp (Z2 _),⟨_,rfl,.own 0 (by decide)⟩,Qp (Z2 _),⟨_,by rw [<- hnl]; rfl,.pure _ Yt⟩,Qp Yt,Yt⟩ ⟨Qs Yt,Yt⟩ ?_
 intro i hi;have hinc:IntKind.i64.wrap ((i:Int)+1)=((i+1:Nat):Int):=Y0v _ ⟨by omega,by omega⟩
 iterate 2 (first|refine st ?_|(apply B<;>intro hb<;>try cases hb))
 refine Zq rfl rfl rfl (fun hb=>?_) (fun hb=>?_)
 . have hil : i < l.length := by have := Y0u hb; omega
   have htake:=Z14 hil;clear hb;have hci:=hl _ (Y0j hil);have hacc:=Z5v hb0 (l.take i) (fun c hc=>hl c (List.mem_of_mem_take hc));rw [Y0o] at hacc;refine go ?_;refine Qo (Zm (xs:=l) (g:=cuC) rfl rfl i rfl hil rfl) ?_;generalize l[i]=x at htake hci ⊢;have hone:=(Zbl hb0 hci).2.2;have hsn:splAll bad (l.take (i+1))=splAll bad (l.take i)++splL bad x:=by rw [htake]; unfold splAll; rw [List.flatMap_append]; simp
   generalize splAll bad (l.take i)=acc at hacc hsn ⊢;refine gd 20 ⟨?_⟩;refine Qe (ZdN bad f2 x 62 (by decide) hb0 hci hbl) ⟨Zu _,Z2 _,Yt⟩ ?_;refine gd 28 ⟨?_⟩
   refine ZD (Zx (k:=0) (m:=(splL bad x).map cuC) (fl:=false) rfl rfl rfl (fun c hc=>by obtain⟨y,_,rfl⟩:=Y0i.1 hc; rfl) rfl (by
    show ((acc.map cuC).length+((splL bad x).map cuC).length)*48<=_;rw [Y0f,Y0f]
    omega)) rfl rfl ?_
   refine go ?_
   refine⟨i+1,mv 0 2,by omega,by omega,fun i hi=>absurd hi (Nat.not_lt_zero i),Zy rfl,
    ⟨Qp (Z2 _),⟨_,rfl,.own 0 (by decide)⟩,Qp (Z2 _),Qp Yt,⟨_,by show some _=some _; rw [hinc],.pure _ Yt⟩,Yt⟩,
    ⟨⟨by decide,_,rfl,?_⟩,Yt⟩⟩
   show RenB _ _ ⟨2,acc.map cuC++(splL bad x).map cuC⟩ ⟨2,(splAll bad (l.take (i+1))).map cuC⟩;rw [hsn,Y0r];exact .same _ (by rw [<- Y0r]; exact Z2 _)
 . have hil : i = l.length := by have := of_decide_eq_false hb; omega
   subst hil;clear hb;rw [Y0q]
   repeat' (first|refine Zf (Zp (k:=6) rfl rfl (Z2 _)) ?_|(first|refine st ?_|(apply B<;>intro hb<;>try cases hb)))
   exact Z7 rfl ⟨Z2 _,Yt,Yt⟩ rfl
theorem even62 {a:Nat} (h:a ||| 62=62):a % 2=0/\a<=62:=by
 have h1:a<=62:=by rw [<- h]; exact Nat.left_le_or
 refine⟨?_,h1⟩;have h2:a.testBit 0=false:=Bool.eq_false_iff.2 fun h0=>by
  have:=orSub.1 h 0 h0;cases this
 rw [Nat.testBit_zero] at h2;have:=Nat.mod_lt a (show 0<2 by decide);have h3:¬ a % 2=1:=of_decide_eq_false h2;omega
theorem Zho {l:List Cu} (hn:l.Nodup) (hl:∀ c∈l,InM 62 c):l.length<=1024:=by
 have hnd:(l.map fun c=>c.1 / 2*32+c.2 / 2).Nodup:=by
  rw [List.nodup_iff_pairwise_ne,List.pairwise_map];refine List.Pairwise.imp_of_mem (fun {a b} ha hb hab e=>hab ?_) (List.nodup_iff_pairwise_ne.1 hn);have a1:=even62 (hl a ha).1;have a2:=even62 (hl a ha).2;have b1:=even62 (hl b hb).1;have b2:=even62 (hl b hb).2;exact Prod.ext (by omega) (by omega)
 have:=Z2o 1024 _ hnd fun x hx=>by
  obtain⟨c,hc,rfl⟩:=Y0i.1 hx;have a1:=even62 (hl c hc).1;have a2:=even62 (hl c hc).2;show c.1 / 2*32+c.2 / 2<1024;omega
 rwa [Y0f] at this
theorem Z3O {l:List Cu} (hl:∀ c∈l,InM 62 c):∀ c∈l,Ok64 c:=fun c hc=>(hl c hc).lt (by decide)
theorem sim62 {l:List Cu} (hl:∀ c∈l,InM 62 c):(∀ c∈simL l,InM 62 c)/\(simL l).length<=1024:=by
 have h1:∀ c∈simL l,InM 62 c:=fun c hc=>hl c (Z2L hc).1;exact⟨h1,Zho (Z5s (Z3O hl)) h1⟩
theorem Z3P (l:List Cu) (fl:Bool) (hl:∀ c∈l,InM 62 c) (hlen:l.length<=1000000):Spec Tryz.prog 100 [.vec (l.map cuC) fl] (· = .tup [.vec ((simL l).map cuC) false,.val (.int .i64 0)]):=by
 have h1:=(sim62 hl).2;refine Yp ok100 fun C hC=>?_;refine gd 5 ⟨?_⟩;refine Qe (Z6J l fl (Z3O hl) hlen) ⟨Z2 _,Yt⟩ ?_;refine gd 8 ⟨?_⟩;refine Qo (Z4 (v:=false) rfl (by simp;omega)) ?_;refine go ?_;exact Z7 rfl ⟨Z2 _,Yt,Yt⟩ rfl
noncomputable def badL (t:PB):List Cu:=simL (expAll t t.nv)
noncomputable def tgtL (t:PB):List Cu:=simL (splAll (badL t) (expAll t t.gl))
theorem Z2g {t:PB} (h:PbOk t) {l:List Cu} (hl:∀ c∈l,InC t.n c/\InM 62 c):∀ c∈expAll t l,InM 62 c:=fun c hc=>by
 obtain⟨x,hx,hc⟩:=List.mem_flatMap.1 hc;exact (Z7O h (hl x hx).2).2.2.2 c hc
theorem Z37 {bad l:List Cu} (hb:∀ b∈bad,InM 62 b) (hl:∀ c∈l,InM 62 c):∀ c∈splAll bad l,InM 62 c:=fun c hc=>by
 obtain⟨x,hx,hc⟩:=List.mem_flatMap.1 hc;exact (Zbl hb (hl x hx)).2.1 c hc
theorem Z6T {t:PB} (h:PbOk t):(∀ c∈badL t,InM 62 c)/\(badL t).length<=1024:=sim62 (Z2g h h.nv)
theorem ZjM {t:PB} (h:PbOk t):(∀ c∈tgtL t,InM 62 c)/\(tgtL t).length<=1024:=sim62 (Z37 (Z6T h).1 (Z2g h h.gl))
theorem Z8K {α:Type} (f:α->List Cu) (l:List α) (S:Nat):soC (l.flatMap f) S=l.any fun x=>soC (f x) S:=by unfold soC; exact List.any_flatMap
theorem Z9F {t:PB} (h:PbOk t) {l:List Cu} (hl:∀ c∈l,InC t.n c/\InM 62 c) {S:Nat} (hS:InS t S):soC (expAll t l) S=soC l (clo t.l S):=by
 unfold expAll;rw [Z8K];unfold soC;rw [Bool.eq_iff_iff,Y01,Y01];exact exists_congr fun c=>and_congr_right fun hc=>by rw [<- Zi6 h.good.small h.n.2 (hl c hc).1 hS]; rfl
theorem Z9G {bad:List Cu} (hb:∀ b∈bad,InM 62 b) (l:List Cu) (S:Nat):soC (splAll bad l) S=(soC l S && !soC bad S):=by
 unfold splAll;rw [Z8K]
 induction l with
 | nil=>rfl
 | cons c l ih =>
   rw [List.any_cons,ih,ZiL (Z3O hb),Z3m];cases hoC c S<;>cases soC bad S<;>cases soC l S<;>rfl
theorem ZfB {t:PB} (h:PbOk t) {S:Nat} (hS:InS t S):soC (badL t) S = !goodB t S:=by
 unfold badL goodB;rw [Z8D (Z3O (Z2g h h.nv)),Z9F h h.nv hS,Bool.not_not]
theorem ZjN {t:PB} (h:PbOk t) {S:Nat} (hS:InS t S):soC (tgtL t) S=(goodB t S&&reachB t S):=by
 unfold tgtL;rw [Z8D (Z3O (Z37 (Z6T h).1 (Z2g h h.gl))),Z9G (Z6T h).1,Z9F h h.gl hS,ZfB h hS,Bool.not_not,Bool.and_comm]
 rfl
theorem ZcI {t:PB} (h:PbOk t) (S:List Nat):Spec Tryz.prog 95 [.agg (pbP t S)] (· = .tup [.vec ((badL t).map cuC) false,.val (.int .i64 0)]):=by
 have hpp:=ZL t S;have hl:=Z5u h t.nv h.nv;have hnl:=h.nl;refine Yp ok95 fun C hC=>?_;refine Zs ?_;refine Zc ?_;refine Z5 rfl rfl rfl ?_;refine gd 8 ⟨?_⟩;refine Qe (Z8J h S) ⟨hpp,Yt⟩ ?_;refine gd 16 ⟨?_⟩;refine Qe (Z5J h S t.nv false h.nv (by omega)) ⟨hpp,Z2 _,Yt⟩ ?_;refine gd 23 ⟨?_⟩;refine Qe (Z3P (expAll t t.nv) false (Z2g h h.nv) (by omega)) ⟨Z2 _,Yt⟩ ?_;refine go ?_;exact Z7 rfl ⟨Z2 _,Yt,Yt⟩ rfl
theorem Z9H {t:PB} (h:PbOk t) (S:List Nat):Spec Tryz.prog 42 [.agg (pbP t S)] (· = .tup [.vec ((tgtL t).map cuC) false,.val (.int .i64 0)]):=by
 have hpp:=ZL t S;have hl:=Z5u h t.gl h.gl;have hnl:=h.gk;have hbi:=Z6T h;have hl2:=Z5v hbi.1 (expAll t t.gl) (Z2g h h.gl);refine Yp ok42 fun C hC=>?_;refine Zs ?_;refine Zc ?_;refine Z5 rfl rfl rfl ?_;refine gd 9 ⟨?_⟩;refine Qe (ZcI h S) ⟨hpp,Yt⟩ ?_;refine gd 19 ⟨?_⟩;refine Qe (Z5J h S t.gl false h.gl (by omega)) ⟨hpp,Z2 _,Yt⟩ ?_;refine gd 28 ⟨?_⟩;refine Qe (Z6S (badL t) (expAll t t.gl) false false hbi.1 (by omega) (Z2g h h.gl) (by omega)) ⟨Z2 _,Z2 _,Yt⟩ ?_;refine gd 35 ⟨?_⟩;refine Qe (Z3P (splAll (badL t) (expAll t t.gl)) false (Z37 hbi.1 (Z2g h h.gl)) (by omega)) ⟨Z2 _,Yt⟩ ?_;refine go ?_;exact Z7 rfl ⟨Z2 _,Yt,Yt⟩ rfl
theorem Z1z {N:Nat} (hN:N<18446744073709551616) {i:Nat} (hi:i<64):withoutN N (i:Int)=minusN N (2 ^ i):=by
 refine Nat.eq_of_testBit_eq fun j=>?_;rw [Z3v hN,ZB hN (ZI hi),Nat.testBit_two_pow];by_cases h:j=i
 . subst h; simp
 . rw [decide_eq_true h,Y0w fun h'=>h h'.symm]; rfl
theorem Z5K (c:Cu) (hc:Ok64 c) (tg:Nat) (ht:tg<64) (rev:Bool):Spec Tryz.prog 97 [cuP c,.val (.int .i64 (tg:Int)),.val (.bool rev)] (· = .tup [cuP (befC c tg rev),.val (.bool (befB c tg rev))]):=by
 have hw1:=Z10 c.1 hc.1 (tg:Int);have hw2:=Z10 c.2 hc.2 (tg:Int);rw [Z1z hc.1 ht] at hw1;rw [Z1z hc.2 ht] at hw2;have hh1:=Z2f c.1 hc.1 tg;have hh2:=Z2f c.2 hc.2 tg;refine Yp ok97 fun C hC=>?_;refine Zs ?_;refine Zc ?_;refine Z5 rfl rfl rfl ?_;cases rev
 . refine gd 24 ⟨?_⟩;refine Qd hw1 ⟨Z1 _,Yt,Yt⟩ ?_;refine gd 31 ⟨?_⟩;refine Qd hh2 ⟨Z1 _,Yt,Yt⟩ ?_;unfold befB;rw [if_neg (by decide)];generalize c.2.testBit tg=b;cases b
   all_goals
    refine go ?_;exact Z7 (r:=.tup [cuP (befC c tg false),.val (.bool _)]) rfl ⟨Zu _,Yt,Yt⟩ rfl
 . refine gd 14 ⟨?_⟩;refine Qd hw2 ⟨Z1 _,Yt,Yt⟩ ?_;refine gd 19 ⟨?_⟩;refine Qd hh1 ⟨Z1 _,Yt,Yt⟩ ?_;unfold befB;rw [if_pos rfl];generalize c.1.testBit tg=b;cases b
   all_goals
    refine go ?_;exact Z7 (r:=.tup [cuP (befC c tg true),.val (.bool _)]) rfl ⟨Zu _,Yt,Yt⟩ rfl
def befO (tg:Nat) (rev:Bool) (b:Cu):List Cu:=if befB b tg rev then [befC b tg rev] else []
def aftT (bad:List Cu) (tg:Nat) (rev:Bool) (i:Nat):List Cu:=bad++(bad.take i).flatMap (befO tg rev)
theorem ZfC (bad:List Cu) (tg:Nat) (rev:Bool) {i:Nat} (hi:i<bad.length):aftT bad tg rev (i+1)=aftT bad tg rev i++befO tg rev bad[i]:=by
 unfold aftT;rw [Z14 hi,List.flatMap_append,<- List.append_assoc];simp
theorem Zhp (tg:Nat) (rev:Bool) (b:Cu):(befO tg rev b).length<=1:=by unfold befO; split<;>simp
theorem ZcJ (bad:List Cu) (tg:Nat) (rev:Bool) (i:Nat):(aftT bad tg rev i).length<=2*bad.length:=by
 unfold aftT;rw [Y0e];have:=Z5b (l:=bad.take i) (f:=befO tg rev) (k:=1) fun x _=>Zhp tg rev x;rw [Y0o] at this;omega
noncomputable def aftL (t:PB) (r:RU):List Cu:=aftT (badL t) r.tg r.rev (badL t).length
noncomputable def ifR (t:PB) (r:RU):List PV := [.vec ((exL t.l t.n r.cu).map cuC) false]
noncomputable def afR (t:PB) (r:RU):List PV := [.vec ((aftL t r).map cuC) false]
theorem Z4e (t:PB) (r:RU):pureL (ifR t r):=⟨Z2 _,Yt⟩
theorem Z4f (t:PB) (r:RU):pureL (afR t r):=⟨Z2 _,Yt⟩
noncomputable def srC (t:PB) (S:List Nat):List PV := [.val (.int .i64 (t.n:Int)),hierP t.l S,.vec (words (digs t.st)) false,.vec (t.rs.map ruP) false,.vec (t.nv.map cuC) false,.vec (t.gl.map cuC) false,.vec ((badL t).map cuC) false,.vec (t.rs.map (ifR t)) false,.vec (t.rs.map (afR t)) false]
theorem Z5c (t:PB) (S:List Nat):pureL (srC t S):=⟨Yt,Zw _ _,Za _,ZX _,Z2 _,Z2 _,Z2 _,Z9 (Z4e t) _,Z9 (Z4f t) _,Yt⟩
theorem Z9I {t:PB} (h:PbOk t) (S:List Nat):Spec Tryz.prog 41 [.agg (pbP t S)] (· = .tup [.cp (srC t S),.val (.int .i64 0)]):=by
 have hpp:=ZL t S;have hbi:=Z6T h;have hrl:=h.rl;have hnr:(t.rs.map ruP).length=t.rs.length:=by simp
 have hnb:((badL t).map cuC).length=(badL t).length:=by simp
 refine Yp ok41 fun C hC=>?_;refine Zs ?_;refine Zc ?_;refine Z5 rfl rfl rfl ?_;refine gd 18 ⟨?_⟩;refine Qe (ZcI h S) ⟨hpp,Yt⟩ ?_;refine gd 28 ⟨?_⟩;refine Zf (ZU (id:=0) (i0:=0) (j0:=7) rfl (Nat.le_of_ble_eq_true rfl) (Nat.le_of_ble_eq_true rfl) rfl 1 (by decide) (by decide)) ?_;refine Zf (ZU (id:=0) (i0:=0) (j0:=8) rfl (Nat.le_of_ble_eq_true rfl) (Nat.le_of_ble_eq_true rfl) rfl 1 (by decide) (by decide)) ?_;refine go ?_;refine ZF hC (fun (i:Nat)=>i<=t.rs.length) (fun i=>t.rs.length-i) 3 (fun i => [(1,.cp (pbP t S)),(4,.vec ((badL t).map cuC) false),(6,.ptr 0 0 0),(29,.vec (t.rs.map ruP) false),(30,.val (.int .i64 (t.rs.length:Int))),(31,Yv i)])
  (fun i => [(0,⟨9,[[.val (.int .i64 (t.n:Int)),hierP t.l S,.vec (words (digs t.st)) false,.vec (t.rs.map ruP) false,.vec (t.nv.map cuC) false,.vec (t.gl.map cuC) false,.vec ((badL t).map cuC) false,.own 1,.own 2]]⟩),(1,⟨1,(t.rs.take i).map (ifR t)⟩),(2,⟨1,(t.rs.take i).map (afR t)⟩)]) (Y0l _) 0 (Y0l _) (fun i=>i) (fun _ _=>rfl) Zt
  ⟨Qp hpp,Qp (Z2 _),Qt 0 0 0,Qp (ZX _),⟨_,by rw [<- hnr]; rfl,.pure _ Yt⟩,Qp Yt,Yt⟩
  ⟨⟨by decide,_,rfl,RenB.single ⟨.pure _ Yt,.pure _ (Zw _ _),.pure _ (Za _),.pure _ (ZX _),.pure _ (Z2 _),.pure _ (Z2 _),.pure _ (Z2 _),.own (ρ:=fun i=>i) 1 (by decide),.own (ρ:=fun i=>i) 2 (by decide),Yt⟩ rfl⟩,Qs Yt,Qs Yt,Yt⟩ ?_
 intro i hi;have hinc:IntKind.i64.wrap ((i:Int)+1)=((i+1:Nat):Int):=Y0v _ ⟨by omega,by omega⟩;refine gd 32 ⟨?_⟩;by_cases hil:i<t.rs.length
 . have htk := Z14 hil;have hro:=h.rs _ (Y0j hil);have htl:(t.rs.take i).length<=64:=by rw [Y0o]; omega
   refine Qo (Qy rfl (Int.ofNat_lt.2 hil)) ?_;refine go ?_;refine Qo (Zm (xs:=t.rs) (g:=ruP) rfl rfl i rfl hil rfl) ?_;generalize t.rs[i]=x at htk hro ⊢;have hxt:=hro.tg;generalize t.rs.take i=tk at htk htl ⊢;refine gd 39 ⟨?_⟩;refine Qe (Z57 h S x.cu hro.cu hro.m) ⟨hpp,Zu _,Yt⟩ ?_;refine gd 45 ⟨?_⟩;refine Z2x rfl rfl rfl ?_
   iterate 1 (first|refine st ?_|(apply B<;>intro hb<;>try cases hb))
   refine ZD (Zx (k:=4) (m:=(badL t).map cuC) (fl:=false) rfl rfl rfl (fun q hq=>by obtain⟨y,_,rfl⟩:=Y0i.1 hq; rfl) rfl (by
    show (0+((badL t).map cuC).length)*48<=_
    rw [Y0f];omega)) rfl rfl ?_
   refine go ?_;refine ZF hC (fun (j:Nat)=>j<=(badL t).length) (fun j=>(badL t).length-j) 6 (fun j => [(1,.cp (pbP t S)),(4,.vec ((badL t).map cuC) false),(6,.ptr 0 0 0),(8,.ptr 3 0 0),(9,.vec ((exL t.l t.n x.cu).map cuC) false),(11,.own 5),(29,.vec (t.rs.map ruP) false),(30,.val (.int .i64 (t.rs.length:Int))),(31,Yv i),(48,.vec ((badL t).map cuC) false),(49,.val (.int .i64 ((badL t).length:Int))),(50,Yv j)])
    (fun j => [(0,⟨9,[[.val (.int .i64 (t.n:Int)),hierP t.l S,.vec (words (digs t.st)) false,.vec (t.rs.map ruP) false,.vec (t.nv.map cuC) false,.vec (t.gl.map cuC) false,.vec ((badL t).map cuC) false,.own 1,.own 2]]⟩),(1,⟨1,tk.map (ifR t)⟩),(2,⟨1,tk.map (afR t)⟩),(3,⟨5,[ruP x]⟩),(5,⟨2,(aftT (badL t) x.tg x.rev j).map cuC⟩)]) (Y0l _) 0 (Y0l _) (fun i=>i) (fun _ _=>rfl) Zt
    ⟨Qp hpp,Qp (Z2 _),Qt 0 0 0,Qt 3 0 0,Qp (Z2 _),Qw 5,Qp (ZX _),Qp Yt,Qp Yt,Qp (Z2 _),⟨_,by rw [<- hnb]; rfl,.pure _ Yt⟩,Qp Yt,Yt⟩
    ⟨⟨by decide,_,rfl,RenB.single ⟨.pure _ Yt,.pure _ (Zw _ _),.pure _ (Za _),.pure _ (ZX _),.pure _ (Z2 _),.pure _ (Z2 _),.pure _ (Z2 _),.own (ρ:=fun i=>i) 1 (by decide),.own (ρ:=fun i=>i) 2 (by decide),Yt⟩ rfl⟩,Qs (Z9 (Z4e t) _),Qs (Z9 (Z4f t) _),Qs ⟨Z4c x,Yt⟩,⟨by decide,_,rfl,by unfold aftT; rw [List.take_zero,List.flatMap_nil,Y0p]; exact .same _ (Z2 _)⟩,Yt⟩ ?_
   intro j hj;have hjnc:IntKind.i64.wrap ((j:Int)+1)=((j+1:Nat):Int):=Y0v _ ⟨by omega,by omega⟩;have hal:=ZcJ (badL t) x.tg x.rev j;refine gd 51 ⟨?_⟩;by_cases hjl:j<(badL t).length
   . have hsn := ZfC (badL t) x.tg x.rev hjl;have hb64:=Z3O hbi.1 _ (Y0j hjl);refine Qo (Qy rfl (Int.ofNat_lt.2 hjl)) ?_;refine go ?_;refine Qo (Zm (xs:=badL t) (g:=cuC) rfl rfl j rfl hjl rfl) ?_;generalize (badL t)[j]=y at hsn hb64 ⊢;generalize aftT (badL t) x.tg x.rev j=acc at hsn hal ⊢;refine gd 59 ⟨?_⟩;refine Z0 rfl rfl rfl ?_;refine Qe (Z5K y hb64 x.tg (by omega) x.rev) ⟨Zu _,Yt,Yt,Yt⟩ ?_;unfold befO at hsn;generalize befC y x.tg x.rev=bc at hsn ⊢;generalize befB y x.tg x.rev=bb at hsn ⊢;cases bb
     . rw [if_neg (by decide), Y0p] at hsn;refine go ?_
       refine⟨j+1,fun i=>i,hjl,by show (badL t).length-(j+1)<(badL t).length-j; omega,fun _ _=>rfl,Zt,
        ⟨Qp hpp,Qp (Z2 _),Qt 0 0 0,Qt 3 0 0,Qp (Z2 _),Qw 5,Qp (ZX _),Qp Yt,Qp Yt,Qp (Z2 _),Qp Yt,⟨_,by show some _=some _; rw [hjnc],.pure _ Yt⟩,Yt⟩,
        ⟨⟨by decide,_,rfl,RenB.single ⟨.pure _ Yt,.pure _ (Zw _ _),.pure _ (Za _),.pure _ (ZX _),.pure _ (Z2 _),.pure _ (Z2 _),.pure _ (Z2 _),.own (ρ:=fun i=>i) 1 (by decide),.own (ρ:=fun i=>i) 2 (by decide),Yt⟩ rfl⟩,Qs (Z9 (Z4e t) _),Qs (Z9 (Z4f t) _),Qs ⟨Z4c x,Yt⟩,⟨by decide,_,rfl,?_⟩,Yt⟩⟩
       rw [hsn];exact .same _ (Z2 _)
     . rw [if_pos rfl] at hsn;refine gd 67 ⟨?_⟩
       refine ZD (Zx (k:=5) (m := [cuC bc]) (fl:=true) rfl rfl rfl (fun q hq=>by rw [Y0g] at hq; subst hq; rfl) rfl (by
        show ((acc.map cuC).length+1)*48<=_
        rw [Y0f];omega)) rfl rfl ?_
       refine go ?_
       refine⟨j+1,mv 5 8,hjl,by show (badL t).length-(j+1)<(badL t).length-j; omega,fun i hi=>absurd hi (Nat.not_lt_zero i),Zy rfl,
        ⟨Qp hpp,Qp (Z2 _),Qt 0 0 0,Qt 3 0 0,Qp (Z2 _),Qw 5,Qp (ZX _),Qp Yt,Qp Yt,Qp (Z2 _),Qp Yt,⟨_,by show some _=some _; rw [hjnc],.pure _ Yt⟩,Yt⟩,
        ⟨⟨by decide,_,rfl,RenB.single ⟨.pure _ Yt,.pure _ (Zw _ _),.pure _ (Za _),.pure _ (ZX _),.pure _ (Z2 _),.pure _ (Z2 _),.pure _ (Z2 _),.own (ρ:=mv 5 8) 1 (by decide),.own (ρ:=mv 5 8) 2 (by decide),Yt⟩ rfl⟩,Qs (Z9 (Z4e t) _),Qs (Z9 (Z4f t) _),Qs ⟨Z4c x,Yt⟩,⟨by decide,_,rfl,?_⟩,Yt⟩⟩
       show RenB _ _ ⟨2,acc.map cuC ++ [cuC bc]⟩ ⟨2,(aftT (badL t) x.tg x.rev (j+1)).map cuC⟩;rw [hsn,Y0r];exact .same _ (by show pureLL (acc.map cuC ++ [bc].map cuC); rw [<- Y0r]; exact Z2 _)
   . have hjl : j = (badL t).length := by omega
     subst hjl;refine Zf (Zp (k:=11) rfl rfl (Z2 _)) ?_;refine Qo (Qz rfl (Int.lt_irrefl _)) ?_
     repeat' (first|refine Z2l [] [(1,256)] [4194303,4194303,4194303,4194303,4194303,4194303,4194303,4194303,4194047,4194303,4194303,4194303,4194303,4194303,4194303,4194303,4194303,4194303,4194303,4194303,4194303,4194303] (by kernel_rfl) ?_|refine Z8d 77 ?_|(first|refine st ?_|(apply B<;>intro hb<;>try cases hb)))
     refine At.mk ?_
     refine Qr (Zx (k:=1) (m := [ifR t x]) (fl:=true) rfl rfl rfl (fun q hq=>by rw [Y0g] at hq; subst hq; rfl) rfl (by
      show ((tk.map (ifR t)).length+1)*24<=_
      rw [Y0f];omega)) ?_
     refine gd 84 ⟨?_⟩
     refine Qr (Zx (k:=2) (m := [afR t x]) (fl:=true) rfl rfl rfl (fun q hq=>by rw [Y0g] at hq; subst hq; rfl) rfl (by
      show ((tk.map (afR t)).length+1)*24<=_
      rw [Y0f];omega)) ?_
     refine go ?_
     refine⟨i+1,fun i=>mv 1 14 (mv 2 21 i),hil,by show t.rs.length-(i+1)<t.rs.length-i; omega,fun i hi=>absurd hi (Nat.not_lt_zero i),Zy rfl,
      ⟨Qp hpp,Qp (Z2 _),Qt 0 0 0,Qp (ZX _),Qp Yt,⟨_,by show some _=some _; rw [hinc],.pure _ Yt⟩,Yt⟩,
      ⟨⟨by decide,_,rfl,RenB.single ⟨.pure _ Yt,.pure _ (Zw _ _),.pure _ (Za _),.pure _ (ZX _),.pure _ (Z2 _),.pure _ (Z2 _),.pure _ (Z2 _),.own (ρ:=fun i=>mv 1 14 (mv 2 21 i)) 1 (by decide),.own (ρ:=fun i=>mv 1 14 (mv 2 21 i)) 2 (by decide),Yt⟩ rfl⟩,⟨by decide,_,rfl,?_⟩,⟨by decide,_,rfl,?_⟩,Yt⟩⟩
     . show RenB _ _ ⟨1, tk.map (ifR t) ++ [ifR t x]⟩ ⟨1, (t.rs.take (i + 1)).map (ifR t)⟩;rw [htk,Y0r];exact .same _ (by rw [<- List.map_singleton,<- Y0r]; exact Z9 (Z4e t) _)
     . show RenB _ _ ⟨1, tk.map (afR t) ++ [afR t x]⟩ ⟨1, (t.rs.take (i + 1)).map (afR t)⟩;rw [htk,Y0r];exact .same _ (by rw [<- List.map_singleton,<- Y0r]; exact Z9 (Z4f t) _)
 . have hil : i = t.rs.length := by omega
   subst hil;rw [Y0q];refine Zf (ZA (ob:=0) (id:=1) (i0:=0) (j0:=7) rfl rfl (by decide) (Z9 (Z4e t) _) (Nat.le_of_ble_eq_true rfl) (Nat.le_of_ble_eq_true rfl) rfl) ?_;refine Zf (ZA (ob:=0) (id:=2) (i0:=0) (j0:=8) rfl rfl (by decide) (Z9 (Z4f t) _) (Nat.le_of_ble_eq_true rfl) (Nat.le_of_ble_eq_true rfl) rfl) ?_;refine Zf (Z1E (k:=6) (l:=srC t S) rfl rfl (Z5c t S)) ?_;refine Qo (Qz rfl (Int.lt_irrefl _)) ?_;refine go ?_;exact Z7 rfl ⟨Z5c t S,Yt,Yt⟩ rfl
theorem Z65 {m a b:Nat} (ha:a<18446744073709551616) (hb:b<18446744073709551616) (h:a ||| m=m):minusN a b ||| m=m:=orSub.2 fun i hi=>by
 rw [ZB ha hb,Y0k] at hi;exact orSub.1 h i hi.1
theorem Zbm {c:Cu} (h:InM 62 c) {tg:Nat} (ht:tg<64) (rev:Bool):InM 62 (befC c tg rev):=by
 have h64:=h.lt (by decide);have hp:=ZI ht;unfold befC
 split
 . exact⟨h.1,Z65 h64.2 hp h.2⟩
 . exact⟨Z65 h64.1 hp h.1,h.2⟩
theorem Zbn {c:Cu} (h:InM 62 c) {tg:Nat} (ht:1<=tg/\tg<=5) (rev:Bool):InM 62 (befD c tg rev):=by
 have h1:=Zbm h (show tg<64 by omega) rev;have hb:=bit62 ht.1 ht.2;unfold befD
 split
 . exact Z8F h1 hb
 . exact Zcz h1 hb
theorem ZfD {t:PB} (h:PbOk t) {r:RU} (hr:RuOk t.n r):(∀ c∈aftL t r,InM 62 c)/\(aftL t r).length<=2048:=by
 have hb:=Z6T h;have ht:=hr.tg;refine⟨fun c hc=>?_,by have:=ZcJ (badL t) r.tg r.rev (badL t).length; unfold aftL; omega⟩;unfold aftL aftT at hc;rcases Y0h.1 hc with hc|hc
 . exact hb.1 c hc
 . obtain ⟨x, hx, hc⟩ := List.mem_flatMap.1 hc;unfold befO at hc
   split at hc
   . rw [Y0g] at hc; subst hc;exact Zbm (hb.1 x (List.mem_of_mem_take hx)) (by omega) _
   . cases hc
def metO (y i:Cu):List Cu:=if (meC y i).2 then [(meC y i).1] else []
def metL (y:Cu) (l:List Cu):List Cu:=l.flatMap (metO y)
theorem ZfE {a b:Cu} {m:Nat} (ha:InM m a) (hb:InM m b):InM m (bothC a b):=⟨orSub.2 fun i hi=>by
 rw [show (bothC a b).1=a.1 ||| b.1 from rfl,Y00,Bool.or_eq_true] at hi;exact hi.elim (orSub.1 ha.1 i) (orSub.1 hb.1 i),orSub.2 fun i hi=>by
 rw [show (bothC a b).2=a.2 ||| b.2 from rfl,Y00,Bool.or_eq_true] at hi
 exact hi.elim (orSub.1 ha.2 i) (orSub.1 hb.2 i)⟩
theorem ZiP {y i:Cu} (hy:InM 62 y) (hi:InM 62 i):∀ c∈metO y i,InM 62 c:=fun c hc=>by
 unfold metO meC at hc;by_cases h:emC (bothC y i)=true
 . rw [if_pos h,if_neg (by decide)] at hc; cases hc
 . rw [if_neg h,if_pos rfl,Y0g] at hc; subst hc; exact ZfE hy hi
theorem Zhq (y i:Cu):(metO y i).length<=1:=by unfold metO; split<;>simp
theorem Zbo {y:Cu} (hy:InM 62 y) {l:List Cu} (hl:∀ i∈l,InM 62 i):∀ c∈metL y l,InM 62 c:=fun c hc=>by
 obtain⟨i,hi,hc⟩:=List.mem_flatMap.1 hc;exact ZiP hy (hl i hi) c hc
theorem Zhr (y:Cu) (l:List Cu):(metL y l).length<=l.length:=by
 have:=Z5b (l:=l) (f:=metO y) (k:=1) fun x _=>Zhq y x;unfold metL; omega
theorem ZfF (y:Cu) {l:List Cu} {j:Nat} (hj:j<l.length):metL y (l.take (j+1))=metL y (l.take j)++metO y l[j]:=by
 unfold metL;rw [Z14 hj,List.flatMap_append]; simp
noncomputable def bfL (t:PB) (r:RU) (c:Cu):List Cu:=if befB c r.tg r.rev then simL (splAll (aftL t r) (metL (befD c r.tg r.rev) (exL t.l t.n r.cu))) else []
theorem Z9J {t:PB} (h:PbOk t) (S:List Nat) (c:Cu) (hc:InM 62 c) (k:Nat) (hk:k<t.rs.length):Spec Tryz.prog 102 [.cp (srC t S),cuP c,.val (.int .i64 (k:Int))] (· = .tup [.vec ((bfL t t.rs[k] c).map cuC) false,.val (.int .i64 0)]):=by
 have hsr:=Z5c t S;have hro:=h.rs _ (Y0j hk);have hc64:=hc.lt (by decide);refine Yp ok102 fun C hC=>?_;refine Zs ?_;refine Zc ?_;refine Z5 rfl rfl rfl ?_;refine gd 23 ⟨?_⟩;refine Qo (Zm (xs:=t.rs) (g:=ruP) rfl rfl k rfl hk rfl) ?_;generalize hx:t.rs[k]=x at hro ⊢;have hxt:=hro.tg;refine gd 30 ⟨?_⟩;refine Z0 rfl rfl rfl ?_;refine Qe (Z5K c hc64 x.tg (by omega) x.rev) ⟨Zu _,Yt,Yt,Yt⟩ ?_;unfold bfL;cases hbb:befB c x.tg x.rev
 . rw [if_neg (by decide)];refine go ?_;exact Z1a rfl ⟨Yt,Yt,Yt⟩ rfl
 rw [if_pos rfl];have hbc:=(Zbm hc (show x.tg<64 by omega) x.rev).lt (by decide);refine gd 34 ⟨?_⟩;refine Z0 rfl rfl rfl ?_
 iterate 4 (first|refine st ?_|(apply B<;>intro hb<;>try cases hb))
 refine Zca hC True 2 [(0,.cp (srC t S)),(2,.val (.int .i64 (k:Int))),(9,.ptr 1 0 0)] [(1,⟨2,[cuC (befD c x.tg x.rev)]⟩)] (Y0l _) ?_ fun _=>?_
 . have hbd : befD c x.tg x.rev = if x.rev then ((befC c x.tg x.rev).1 ||| 2 ^ x.tg, (befC c x.tg x.rev).2) else ((befC c x.tg x.rev).1, (befC c x.tg x.rev).2 ||| 2 ^ x.tg) := rfl
   rw [hbd];generalize befC c x.tg x.rev=bc at hbc ⊢;refine gd 37 ⟨?_⟩;cases hv:x.rev
   . rw [if_neg (by decide)];refine Qo (Z4 (v:=false) rfl hv) ?_;refine gd 48 ⟨?_⟩;refine Qe (Z13 _ hbc.2 x.tg (by omega)) ⟨Z1 _,Yt,Yt⟩ ?_;refine go ?_;exact⟨Yt,⟨⟨rfl,Zv (fun _ h=>h.elim) _ hsr⟩,⟨rfl,Yt⟩,⟨rfl,show (1:Nat)<2 by decide⟩,Yt⟩,⟨by decide,rfl,⟨Zj _ _,Zj _ _,Yt⟩,Yt⟩,Yt⟩
   . rw [if_pos rfl];refine Qo (Z4 (v:=true) rfl hv) ?_;refine gd 42 ⟨?_⟩;refine Qe (Z13 _ hbc.1 x.tg (by omega)) ⟨Z1 _,Yt,Yt⟩ ?_;refine go ?_;exact⟨Yt,⟨⟨rfl,Zv (fun _ h=>h.elim) _ hsr⟩,⟨rfl,Yt⟩,⟨rfl,show (1:Nat)<2 by decide⟩,Yt⟩,⟨by decide,rfl,⟨Zj _ _,Zj _ _,Yt⟩,Yt⟩,Yt⟩
 have hy:=Zbn hc ⟨hxt.1,hxt.2.2⟩ x.rev;generalize befD c x.tg x.rev=y at hy ⊢;have hy64:=hy.lt (by decide);obtain⟨-,-,hel,hei⟩:=Z7O h hro.m;have haf:=ZfD h hro
 repeat' (first|refine Zf (ZG (k:=11) rfl 2 (by decide)) ?_|(first|refine st ?_|(apply B<;>intro hb<;>try cases hb)))
 refine Qo (Zm (xs:=t.rs) (g:=ifR t) rfl rfl k rfl hk rfl) ?_;rw [hx];refine go ?_;have hnl:((exL t.l t.n x.cu).map cuC).length=(exL t.l t.n x.cu).length:=by simp
 refine ZF hC (fun (j:Nat)=>j<=(exL t.l t.n x.cu).length) (fun j=>(exL t.l t.n x.cu).length-j) 3 (fun j => [(0,.cp (srC t S)),(2,.val (.int .i64 (k:Int))),(9,.ptr 1 0 0),(11,.own 2),(56,.vec ((exL t.l t.n x.cu).map cuC) false),(57,.val (.int .i64 ((exL t.l t.n x.cu).length:Int))),(58,Yv j)])
  (fun j => [(1,⟨2,[cuC y]⟩),(2,⟨2,(metL y ((exL t.l t.n x.cu).take j)).map cuC⟩)]) (Y0l _) 0 (Y0l _) (fun i=>i) (fun _ _=>rfl) Zt
  ⟨Qp hsr,Qp Yt,Qt 1 0 0,Qw 2,Qp (Z2 _),⟨_,by rw [<- hnl]; rfl,.pure _ Yt⟩,Qp Yt,Yt⟩ ⟨Qs ⟨Ze y,Yt⟩,Qs Yt,Yt⟩ ?_
 intro j hj;have hinc:IntKind.i64.wrap ((j:Int)+1)=((j+1:Nat):Int):=Y0v _ ⟨by omega,by omega⟩;have hml:=Zhr y ((exL t.l t.n x.cu).take j);rw [Y0o] at hml;refine gd 59 ⟨?_⟩;by_cases hjl:j<(exL t.l t.n x.cu).length
 . have hsn := ZfF y hjl;have hz:=(hei _ (Y0j hjl)).lt (by decide);refine Qo (Qy rfl (Int.ofNat_lt.2 hjl)) ?_;refine go ?_;refine Qo (Zm (xs:=exL t.l t.n x.cu) (g:=cuC) rfl rfl j rfl hjl rfl) ?_;generalize (exL t.l t.n x.cu)[j]=z at hsn hz ⊢;generalize metL y ((exL t.l t.n x.cu).take j)=acc at hsn hml ⊢;refine gd 65 ⟨?_⟩;refine Qe (Z7D y z hy64 hz) ⟨Zu _,Zu _,Yt⟩ ?_;unfold metO at hsn;generalize meC y z=mz at hsn ⊢;obtain⟨mc,mb⟩:=mz;cases mb
   . have hsn : metL y ((exL t.l t.n x.cu).take (j + 1)) = acc ++ [] := hsn;rw [Y0p] at hsn;refine go ?_
     refine⟨j+1,fun i=>i,hjl,by show (exL t.l t.n x.cu).length-(j+1)<(exL t.l t.n x.cu).length-j; omega,fun _ _=>rfl,Zt,
      ⟨Qp hsr,Qp Yt,Qt 1 0 0,Qw 2,Qp (Z2 _),Qp Yt,⟨_,by show some _=some _; rw [hinc],.pure _ Yt⟩,Yt⟩,⟨Qs ⟨Ze y,Yt⟩,⟨by decide,_,rfl,?_⟩,Yt⟩⟩
     rw [hsn];exact .same _ (Z2 _)
   . have hsn : metL y ((exL t.l t.n x.cu).take (j + 1)) = acc ++ [mc] := hsn;refine gd 72 ⟨?_⟩
     refine ZD (Zx (k:=2) (m := [cuC mc]) (fl:=true) rfl rfl rfl (fun q hq=>by rw [Y0g] at hq; subst hq; rfl) rfl (by
      show ((acc.map cuC).length+1)*48<=_
      rw [Y0f];omega)) rfl rfl ?_
     refine go ?_
     refine⟨j+1,mv 2 5,hjl,by show (exL t.l t.n x.cu).length-(j+1)<(exL t.l t.n x.cu).length-j; omega,fun i hi=>absurd hi (Nat.not_lt_zero i),Zy rfl,
      ⟨Qp hsr,Qp Yt,Qt 1 0 0,Qw 2,Qp (Z2 _),Qp Yt,⟨_,by show some _=some _; rw [hinc],.pure _ Yt⟩,Yt⟩,⟨Qs ⟨Ze y,Yt⟩,⟨by decide,_,rfl,?_⟩,Yt⟩⟩
     show RenB _ _ ⟨2,acc.map cuC ++ [cuC mc]⟩ ⟨2,(metL y ((exL t.l t.n x.cu).take (j+1))).map cuC⟩;rw [hsn,Y0r];exact .same _ (by show pureLL (acc.map cuC ++ [mc].map cuC); rw [<- Y0r]; exact Z2 _)
 . have hjl : j = (exL t.l t.n x.cu).length := by omega
   subst hjl;rw [Y0q] at hml ⊢;have hmi:=Zbo hy hei;have hsl:=Z5v haf.1 _ hmi;refine Zf (Zp (k:=11) rfl rfl (Z2 _)) ?_;refine Qo (Qz rfl (Int.lt_irrefl _)) ?_;refine gd 81 ⟨?_⟩;refine Qo (Zm (xs:=t.rs) (g:=afR t) rfl rfl k rfl hk rfl) ?_;rw [hx];refine gd 83 ⟨?_⟩;refine Qe (Z6S (aftL t x) _ false false haf.1 (by omega) hmi (by omega)) ⟨Z2 _,Z2 _,Yt⟩ ?_;refine gd 90 ⟨?_⟩;refine Qe (Z3P _ false (Z37 haf.1 hmi) (by omega)) ⟨Z2 _,Yt⟩ ?_;refine go ?_;exact Z7 rfl ⟨Z2 _,Yt,Yt⟩ rfl
theorem Zhs (S:Nat):hoC (0,0) S=true:=(Z1u _ _).2 ⟨fun i hi=>by simp at hi,fun i hi=>by simp at hi⟩
theorem ZiQ (y:Cu) (l:List Cu) (S:Nat):soC (metL y l) S=(hoC y S&&soC l S):=by
 unfold metL;rw [Z8K]
 induction l with
 | nil=>simp [soC]
 | cons i l ih =>
   rw [List.any_cons,ih,Z3m];have e:soC (metO y i) S=(hoC y S&&hoC i S):=by
    unfold metO meC;by_cases h:emC (bothC y i)=true
    . rw [if_pos h,if_neg (by decide),<- Z5q,Z2B h]; rfl
    . rw [if_neg h,if_pos rfl,Z8A,Z5q]
   rw [e];cases hoC y S<;>cases hoC i S<;>cases soC l S<;>rfl
theorem ZjO {t:PB} (h:PbOk t) {r:RU} (hr:RuOk t.n r) {S:Nat} (hS:InS t S):soC (aftL t r) S=(!goodB t S || !goodB t (nextR r S)):=by
 have hb:=Z6T h;have ht:=hr.tg;have hn:=ZcB ht.1 ht.2.1 h.n.2 hS;rw [<- ZfB h hS,<- ZfB h hn];unfold aftL aftT;rw [Y0q];have e:soC (badL t++(badL t).flatMap (befO r.tg r.rev)) S=(soC (badL t) S||soC ((badL t).flatMap (befO r.tg r.rev)) S):=List.any_append;rw [e,Z8K];congr 1;unfold soC;rw [Bool.eq_iff_iff,Y01,Y01];refine exists_congr fun b=>and_congr_right fun hbm=>?_;rw [Zfp (Z3O hb.1 b hbm) (show r.tg<64 by omega) (hS.lt h.n.2)];unfold befO;cases befB b r.tg r.rev with
 | true=>rw [if_pos rfl,Bool.true_and]; simp [soC]
 | false=>rw [if_neg (by decide),Bool.false_and]; simp [soC]
theorem Zkr {t:PB} (h:PbOk t) {r:RU} (hr:RuOk t.n r) {c:Cu} (hc:InM 62 c) {S:Nat} (hS:InS t S):soC (bfL t r c) S=(goodB t S&&(stepR t r S&&hoC c (nextR r S))):=by
 have ht:=hr.tg;have hc64:=hc.lt (by decide);have hbd:=Zhk hc64 (show r.tg<64 by omega) (hS.lt h.n.2);have hex:=Zi6 h.good.small h.n.2 hr.cu hS;obtain⟨-,-,hel,hei⟩:=Z7O h hr.m;have haf:=ZfD h hr;have hrv:(r.rev||hoC r.cu (clo t.l S))=hoC r.cu (clo t.l S):=by
  cases hv:r.rev with
  | false=>rfl
  | true=>rw [hr.rv hv,Zhs]; rfl
 unfold stepR;rw [hrv];unfold bfL;cases hbb:befB c r.tg r.rev with
 | false =>
   rw [if_neg (by decide)];rw [hbb,Bool.false_and] at hbd;show false=_;generalize goodB t S=g1;generalize goodB t (nextR r S)=g2;generalize hoC r.cu (clo t.l S)=g3;generalize decide (nextR r S≠S)=g4 at hbd ⊢;generalize hoC c (nextR r S)=g5 at hbd ⊢
   revert hbd
   cases g1<;>cases g2<;>cases g3<;>cases g4<;>cases g5<;>decide
 | true =>
   rw [if_pos rfl];rw [hbb,Bool.true_and] at hbd;have hyi:=Zbn hc ⟨ht.1,ht.2.2⟩ r.rev;rw [Z8D (Z3O (Z37 haf.1 (Zbo hyi hei))),Z9G haf.1,ZiQ,hex,ZjO h hr hS,hbd];generalize goodB t S=g1;generalize goodB t (nextR r S)=g2;generalize hoC r.cu (clo t.l S)=g3;generalize decide (nextR r S≠S)=g4;generalize hoC c (nextR r S)=g5;cases g1<;>cases g2<;>cases g3<;>cases g4<;>cases g5<;>decide
theorem Zks {t:PB} (h:PbOk t) {r:RU} (hr:RuOk t.n r) {c:Cu} (hc:InM 62 c):(∀ c'∈bfL t r c,InM 62 c'/\emC c'=false)/\(bfL t r c).length<=1024:=by
 have ht:=hr.tg;obtain⟨-,-,hel,hei⟩:=Z7O h hr.m;have haf:=ZfD h hr;have hyi:=Zbn hc ⟨ht.1,ht.2.2⟩ r.rev;have h2:=sim62 (Z37 haf.1 (Zbo hyi hei));unfold bfL
 split
 . exact⟨fun c' hc'=>⟨h2.1 c' hc',(Z2L hc').2⟩,h2.2⟩
 . exact⟨(fun c' hc'=>by cases hc'),by simp⟩
end
section
open Go.RowKit
theorem Zi8 {l:List Pr} {n N:Nat}:∀ (rs:List Nat) (x:List Cu),(∀ c∈x,c.1 ||| mkN n=mkN n/\c.2=N)->∀ c∈exF l n rs x,c.1 ||| mkN n=mkN n/\c.2=N
 | [],x,h=>h
 | r :: rs, x, h => Zi8 rs _ fun c hc => by
   obtain⟨y,hy,hc⟩:=List.mem_flatMap.1 (Z2L hc).1;obtain⟨a,ha,rfl⟩:=Y0i.1 hc;refine⟨orSub.2 fun i hi=>?_,(h y hy).2⟩;rw [Y00,Bool.or_eq_true,Nat.testBit_two_pow,Y0n] at hi;rcases hi with hi|rfl
   . exact orSub.1 (h y hy).1 i hi
   . have := (List.mem_filter.1 ha).2;rw [Y0z,Y0k] at this;exact this.2
theorem ZjP {t:PB} (c:Cu):∀ c'∈exL t.l t.n c,InM (mkN t.n) c':=fun c' hc'=>by
 have h1:=Zi8 (l:=t.l) (n:=t.n) (mem c.1) [(0,exN t.l t.n (mem c.2))] (fun c hc=>by rw [Y0g] at hc; subst hc; exact⟨Nat.zero_or _,rfl⟩) c' hc';refine⟨h1.1,?_⟩;rw [h1.2];refine orSub.2 fun i hi=>?_;rcases (Z6L t.l t.n i (mem c.2) 0).1 hi with h2|⟨r,hr',h2,h3⟩
 . simp at h2
 . exact h3
theorem Zbp {m:Nat} {l:List Cu} (hl:∀ c∈l,InM m c):∀ c∈simL l,InM m c:=fun c hc=>hl c (Z2L hc).1
theorem ZiR {m:Nat} {l:List Cu} {c:Cu} (hl:∀ b∈l,InM m b) (hc:InM m c):∀ c'∈splL l c,InM m c':=by
 have main:∀ (l:List Cu),(∀ b∈l,InM m b)->∀ out:List Cu,(∀ c∈out,InM m c)->∀ c∈l.foldl splS out,InM m c:=by
  intro l
  induction l with
  | nil=>exact fun _ out h=>h
  | cons b l ih=>exact fun hl out h=>ih (fun x hx=>hl x (List.mem_cons_of_mem _ hx)) _ (Zb7 h (hl b (Y0t ..)))
 refine main l hl _ fun c' hc'=>?_
 split at hc'
 . cases hc'
 . rw [Y0g] at hc'; subst hc'; exact hc
theorem ZcK {m:Nat} {bad l:List Cu} (hb:∀ b∈bad,InM m b) (hl:∀ c∈l,InM m c):∀ c∈splAll bad l,InM m c:=fun c hc=>by
 obtain⟨x,hx,hc⟩:=List.mem_flatMap.1 hc;exact ZiR hb (hl x hx) c hc
theorem ZcL (t:PB) (l:List Cu):∀ c∈expAll t l,InM (mkN t.n) c:=fun c hc=>by
 obtain⟨x,hx,hc⟩:=List.mem_flatMap.1 hc;exact ZjP x c hc
theorem ZiS (t:PB):∀ c∈badL t,InM (mkN t.n) c:=Zbp (ZcL t t.nv)
theorem Zkt (t:PB):∀ c∈tgtL t,InM (mkN t.n) c:=Zbp (ZcK (ZiS t) (ZcL t t.gl))
theorem Zi9 {m:Nat} {c:Cu} (h:InM m c) (hm:m<18446744073709551616) {tg:Nat} (ht:tg<64) (rev:Bool):InM m (befC c tg rev):=by
 have h64:=h.lt hm;have hp:=ZI ht;unfold befC
 split
 . exact⟨h.1,Z65 h64.2 hp h.2⟩
 . exact⟨Z65 h64.1 hp h.1,h.2⟩
theorem ZkM {t:PB} (h:PbOk t) {r:RU} (hr:RuOk t.n r) {c:Cu} (hc:InM (mkN t.n) c):∀ c'∈bfL t r c,InM (mkN t.n) c':=by
 have ht:=hr.tg;have hm:=Z4o h.n.2;have hbit:(mkN t.n).testBit r.tg=true:=by rw [Z2k,decide_eq_true ht.1,decide_eq_true ht.2.1]; rfl
 have h1:=Zi9 hc hm (show r.tg<64 by omega) r.rev;have hy:InM (mkN t.n) (befD c r.tg r.rev):=by
  unfold befD
  split
  . exact Z8F h1 hbit
  . exact Zcz h1 hbit
 have ha:∀ c∈aftL t r,InM (mkN t.n) c:=fun c hc=>by
  unfold aftL aftT at hc;rcases Y0h.1 hc with hc|hc
  . exact ZiS t c hc
  . obtain ⟨x, hx, hc⟩ := List.mem_flatMap.1 hc;unfold befO at hc
    split at hc
    . rw [Y0g] at hc; subst hc;exact Zi9 (ZiS t x (List.mem_of_mem_take hx)) hm (by omega) _
    . cases hc
 have hml:∀ c'∈metL (befD c r.tg r.rev) (exL t.l t.n r.cu),InM (mkN t.n) c':=fun c' hc'=>by
  obtain⟨i,hi,hc'⟩:=List.mem_flatMap.1 hc';have hi:=ZjP r.cu i hi;unfold metO meC at hc';by_cases h:emC (bothC (befD c r.tg r.rev) i)=true
  . rw [if_pos h,if_neg (by decide)] at hc'; cases hc'
  . rw [if_neg h,if_pos rfl,Y0g] at hc'; subst hc'; exact ZfE hy hi
 unfold bfL
 split
 . exact Zbp (ZcK ha hml)
 . exact fun c' hc'=>by cases hc'
theorem ZfG {m:Nat} {c:Cu} (h:InM m c) (S:Nat):hoC c (S &&& m)=hoC c S:=by
 rw [Bool.eq_iff_iff,Z1u,Z1u];refine and_congr (forall_congr' fun i=>imp_congr_right fun hi=>?_) (forall_congr' fun i=>imp_congr_right fun hi=>?_)
 . rw [Y0z,orSub.1 h.1 i hi,Bool.and_true]
 . rw [Y0z,orSub.1 h.2 i hi,Bool.and_true]
theorem ZiT {m:Nat} {l:List Cu} (h:∀ c∈l,InM m c) (S:Nat):soC l (S &&& m)=soC l S:=by
 unfold soC;rw [Bool.eq_iff_iff,Y01,Y01];exact exists_congr fun c=>and_congr_right fun hc=>by rw [ZfG (h c hc)]
theorem Zht (t:PB) (S:Nat):InS t (S &&& mkN t.n):=orSub.2 fun i hi=>by
 rw [Y0z,Y0k] at hi;exact hi.2
abbrev KE:=Cu×Int×Nat
def kcs (ks:List KE):List Cu:=ks.map (·.1)
structure KInv (t:PB) (ks:List KE):Prop where
 mem:∀ e∈ks,InM 62 e.1/\InM (mkN t.n) e.1/\emC e.1=false
 how:∀ i e,ks[i]?=some e->(e.2.1 = -1/\∀ S,InS t S->hoC e.1 S=true->goodB t S=true/\reachB t S=true) \/
  ∃ (r to:Nat) (x:RU) (e':KE),e.2=((r:Int),to)/\t.rs[r]?=some x/\to<i/\ks[to]?=some e'/\∀ S,InS t S->hoC e.1 S=true->goodB t S=true/\stepR t x S=true/\hoC e'.1 (nextR x S)=true
 ws:∃ ws:List Nat,ws.length=ks.length/\ws.Nodup/\∀ w∈ws,InS t w/\soC (kcs ks) w=true
theorem KInv.nil (t:PB):KInv t []:=⟨fun e he=>(by cases he),fun i e he=>(by simp at he),⟨[],rfl,List.nodup_nil,fun w hw=>(by cases hw)⟩⟩
theorem Z4g {t:PB} {w:Nat} (h:InS t w):w % 2=0/\w / 2<2 ^ t.n:=by
 have h0:w.testBit 0=false:=Bool.eq_false_iff.2 fun h0=>by
  have:=orSub.1 h 0 h0;rw [Z2k] at this; cases this
 rw [Nat.testBit_zero] at h0;have h1:¬ w % 2=1:=of_decide_eq_false h0;have h2:w<=mkN t.n:=by rw [<- h]; exact Nat.left_le_or
 unfold mkN at h2;have:=Nat.two_pow_pos t.n;omega
theorem KInv.len {t:PB} {ks:List KE} (h:KInv t ks):ks.length<=2 ^ t.n:=by
 obtain⟨ws,h1,h2,h3⟩:=h.ws;have hnd:(ws.map (· / 2)).Nodup:=by
  rw [List.nodup_iff_pairwise_ne,List.pairwise_map];refine List.Pairwise.imp_of_mem (fun {a b} ha hb hab e=>hab ?_) (List.nodup_iff_pairwise_ne.1 h2);have x1:=Z4g (h3 a ha).1;have x2:=Z4g (h3 b hb).1;omega
 have:=Z2o (2 ^ t.n) _ hnd fun x hx=>by
  obtain⟨w,hw,rfl⟩:=Y0i.1 hx;exact (Z4g (h3 w hw).1).2
 rw [Y0f] at this;omega
theorem KInv.c64 {t:PB} {ks:List KE} (h:KInv t ks):∀ c∈kcs ks,Ok64 c:=fun c hc=>by
 obtain⟨e,he,rfl⟩:=Y0i.1 hc;exact (h.mem e he).1.lt (by decide)
theorem Z8L (ks:List KE) (e:KE):kcs (ks ++ [e])=kcs ks ++ [e.1]:=by simp [kcs]
theorem ZfH {a b:List Cu} {S:Nat} (h:soC a S=true):soC (a++b) S=true:=by
 have e:soC (a++b) S=(soC a S||soC b S):=List.any_append;rw [e,h,Bool.true_or]
theorem KInv.add {t:PB} {ks:List KE} (h:KInv t ks) {e:KE} (hm:InM 62 e.1/\InM (mkN t.n) e.1/\emC e.1=false) (hcov:covL (kcs ks) e.1=false)
 (hh : (e.2.1 = -1 /\ ∀ S, InS t S -> hoC e.1 S = true -> goodB t S = true /\ reachB t S = true) \/
   ∃ (r to:Nat) (x:RU) (e':KE),e.2=((r:Int),to)/\t.rs[r]?=some x/\ks[to]?=some e'/\∀ S,InS t S->hoC e.1 S=true->goodB t S=true/\stepR t x S=true/\hoC e'.1 (nextR x S)=true):KInv t (ks ++ [e]):=by
 obtain⟨ws,h1,h2,h3⟩:=h.ws;refine⟨fun x hx=>(Y0h.1 hx).elim (h.mem x) fun hx=>by rw [Y0g] at hx; subst hx; exact hm,fun i x hx=>?_,?_⟩
 . by_cases hi : i < ks.length
   . rw [List.getElem?_append_left hi] at hx;rcases h.how i x hx with h4|⟨r,to,y,e',h4,h5,h6,h7,h8⟩
     . exact .inl h4
     . exact .inr ⟨r,to,y,e',h4,h5,h6,by rw [List.getElem?_append_left (by omega)]; exact h7,h8⟩
   . have hi2 : i = ks.length := by
      have:=(List.getElem?_eq_some_iff.1 hx).1;rw [Y0e,Y0s] at this;omega
     subst hi2;rw [List.getElem?_append_right (Y0m _),Nat.sub_self] at hx;cases hx;rcases hh with h4|⟨r,to,y,e',h4,h5,h7,h8⟩
     . exact .inl h4
     . have hlt := (List.getElem?_eq_some_iff.1 h7).1;exact .inr ⟨r,to,y,e',h4,h5,hlt,by rw [List.getElem?_append_left hlt]; exact h7,h8⟩
 . obtain ⟨S, hS1, hS2⟩ : ∃ S, hoC e.1 S = true /\ soC (kcs ks) S = false := by
    apply Classical.byContradiction;intro hn;have:covL (kcs ks) e.1=true:=(Z8B _ h.c64 _).2 fun S hS=>by
     cases hso:soC (kcs ks) S with
     | true=>rfl
     | false=>exact absurd ⟨S,hS,hso⟩ hn
    rw [hcov] at this; cases this
   have hn:∀ c∈kcs ks,InM (mkN t.n) c:=fun c hc=>by
    obtain⟨e,he,rfl⟩:=Y0i.1 hc;exact (h.mem e he).2.1
   refine⟨ws ++ [S &&& mkN t.n],by rw [Y0e,Y0e,h1]; rfl,?_,fun w hw=>?_⟩
   . rw [List.nodup_append];refine⟨h2,by simp,fun a ha b hb hab=>?_⟩;rw [Y0g] at hb;subst hb;subst hab;have:=(h3 _ ha).2;rw [ZiT hn,hS2] at this; cases this
   . rw [Z8L];rcases Y0h.1 hw with hw|hw
     . exact⟨(h3 w hw).1,ZfH (h3 w hw).2⟩
     . rw [Y0g] at hw; subst hw;refine⟨Zht t S,?_⟩;rw [Z63,ZfG hm.2.1,hS1,Bool.or_true]
inductive Able (t:PB):Nat->Prop
 | base {S:Nat} (hS:InS t S) (hg:goodB t S=true) (hr:reachB t S=true):Able t S
 | step {S:Nat} {x:RU} (hS:InS t S) (hg:goodB t S=true) (hx:x∈t.rs) (hs:stepR t x S=true) (h:Able t (nextR x S)):Able t S
def RunOk (t:PB):Nat->List Nat->Nat->Prop
 | S,[],E=>E=S
 | S,k :: p,E=>∃ x,t.rs[k]?=some x/\stepR t x S=true/\RunOk t (nextR x S) p E
theorem ZdU {t:PB} {x:RU} {S:Nat} (h:stepR t x S=true):goodB t (nextR x S)=true:=by
 unfold stepR at h;rw [Y0k,Y0k] at h;exact h.2.1
theorem Z8M {t:PB} (h:PbOk t) {x:RU} (hx:x∈t.rs) {S:Nat} (hS:InS t S):InS t (nextR x S):=ZcB (h.rs x hx).tg.1 (h.rs x hx).tg.2.1 h.n.2 hS
theorem ZcM {t:PB} (h:PbOk t):∀ (p:List Nat) {S E:Nat},InS t S->goodB t S=true->RunOk t S p E->reachB t E=true->Able t S
 | [],S,E,hS,hg,hr,he=>by cases hr; exact .base hS hg he
 | k :: p, S, E, hS, hg, ⟨x, hx, hs, hr⟩, he => by
   have hxm:=List.mem_of_getElem? hx;exact .step hS hg hxm hs (ZcM h p (Z8M h hxm hS) (ZdU hs) hr he)
inductive PathK (ks:List KE):Nat->List Nat->Prop
 | stop {i:Nat} {e:KE} (h:ks[i]?=some e) (hr:e.2.1<0):PathK ks i []
 | step {i r to:Nat} {e:KE} {p:List Nat} (h:ks[i]?=some e) (hr:e.2=((r:Int),to)) (hp:PathK ks to p):PathK ks i (r :: p)
theorem Zhu {t:PB} (h:PbOk t) {ks:List KE} (hk:KInv t ks) {i:Nat} {p:List Nat} (hp:PathK ks i p):∀ {e:KE},ks[i]?=some e->∀ {S:Nat},InS t S->hoC e.1 S=true->goodB t S=true/\∃ E,RunOk t S p E/\reachB t E=true:=by
 induction hp with
 | stop he hr =>
   rename_i i e0;intro e he' S hS hho;rw [he] at he'; cases he';rcases hk.how _ _ he with h4|⟨r,to,x,e',h4,_⟩
   . exact⟨(h4.2 S hS hho).1,S,rfl,(h4.2 S hS hho).2⟩
   . rw [h4] at hr; simp only at hr; omega
 | step he hr hp ih =>
   rename_i i r to e0 p;intro e he' S hS hho;rw [he] at he'; cases he';rcases hk.how _ _ he with h4|⟨r',to',x,e',h4,h5,h6,h7,h8⟩
   . rw [hr] at h4; simp only at h4; omega
   . rw [hr] at h4;obtain⟨h41,h42⟩:=Prod.mk.inj h4;obtain rfl:r=r':=Int.ofNat.inj h41;subst h42;obtain⟨a1,a2,a3⟩:=h8 S hS hho;have hxm:=List.mem_of_getElem? h5;obtain⟨b1,E,b2,b3⟩:=ih h7 (Z8M h hxm hS) a3;exact⟨a1,E,⟨x,h5,a2,b2⟩,b3⟩
theorem KInv.path {t:PB} {ks:List KE} (hk:KInv t ks):∀ (m i:Nat),i<m->i<ks.length->∃ p,PathK ks i p
 | 0,i,h,_=>absurd h (by omega)
 | m + 1, i, h, hi => by
   have he:=Y0c hi;rcases hk.how i _ he with h4|⟨r,to,x,e',h4,h5,h6,h7,h8⟩
   . exact⟨[],.stop he (by rw [h4.1]; decide)⟩
   . obtain ⟨p, hp⟩ := hk.path m to (by omega) (List.getElem?_eq_some_iff.1 h7).1;exact⟨r :: p,.step he h4 hp⟩
def Exp1 (t:PB) (c:Cu) (x:RU) (ks:List KE):Prop:=∀ S,InS t S->goodB t S=true->stepR t x S=true->hoC c (nextR x S)=true->soC (kcs ks) S=true
def ExpA (t:PB) (c:Cu) (ks:List KE):Prop:=∀ x∈t.rs,Exp1 t c x ks
def TgtIn (t:PB) (ks:List KE):Prop:=∀ S,InS t S->goodB t S=true->reachB t S=true->soC (kcs ks) S=true
theorem Z8N {ks ks':List KE} (h:ks <+: ks') {S:Nat} (hs:soC (kcs ks) S=true):soC (kcs ks') S=true:=by
 obtain⟨u,rfl⟩:=h;have:kcs (ks++u)=kcs ks++kcs u:=by simp [kcs]
 rw [this];exact ZfH hs
theorem Exp1.pre {t:PB} {c:Cu} {x:RU} {ks ks':List KE} (h:Exp1 t c x ks) (hp:ks <+: ks'):Exp1 t c x ks':=fun S a b d e=>Z8N hp (h S a b d e)
theorem ExpA.pre {t:PB} {c:Cu} {ks ks':List KE} (h:ExpA t c ks) (hp:ks <+: ks'):ExpA t c ks':=fun x hx=>(h x hx).pre hp
theorem TgtIn.pre {t:PB} {ks ks':List KE} (h:TgtIn t ks) (hp:ks <+: ks'):TgtIn t ks':=fun S a b c=>Z8N hp (h S a b c)
theorem ZfI {t:PB} (h:PbOk t) {ks:List KE} (ht:TgtIn t ks) (he:∀ e∈ks,ExpA t e.1 ks) {S:Nat} (ha:Able t S):soC (kcs ks) S=true:=by
 induction ha with
 | base hS hg hr=>exact ht _ hS hg hr
 | step hS hg hx hs _ ih =>
   obtain⟨c,hc,hho⟩:=Y01.1 ih;obtain⟨e,hem,rfl⟩:=Y0i.1 hc;exact he e hem _ hx _ hS hg hs hho
theorem ZjQ {t:PB} {ks:List KE} (hk:KInv t ks) {c:Cu} (h:covL (kcs ks) c=true) {S:Nat} (hs:hoC c S=true):soC (kcs ks) S=true:=(Z8B _ hk.c64 _).1 h S hs
inductive Rch (t:PB):Nat->Prop
 | base:Rch t t.st
 | step {S:Nat} {x:RU} (h:Rch t S) (hx:x∈t.rs) (hs:stepR t x S=true):Rch t (nextR x S)
theorem Rch.inS {t:PB} (h:PbOk t) {S:Nat} (hr:Rch t S):InS t S:=by
 induction hr with
 | base=>exact h.st
 | step _ hx _ ih=>exact Z8M h hx ih
theorem PbOk.sgood {t:PB} (h:PbOk t):goodB t t.st=true:=by unfold goodB; rw [h.sg]; rfl
theorem Zhv {t:PB} {S:Nat} (ha:Able t S):∃ p E,RunOk t S p E/\reachB t E=true:=by
 induction ha with
 | base hS hg hr=>exact⟨[],_,rfl,hr⟩
 | step hS hg hx hs _ ih =>
   obtain⟨p,E,h1,h2⟩:=ih;obtain⟨k,hk,rfl⟩:=List.mem_iff_getElem.1 hx;exact⟨k :: p,E,⟨_,Y0c hk,hs,h1⟩,h2⟩
theorem ZfJ {t:PB}:∀ (p:List Nat) {S E:Nat},Rch t S->RunOk t S p E->Rch t E
 | [],S,E,h,hr=>by cases hr; exact h
 | k :: p,S,E,h,⟨x,hx,hs,hr⟩=>ZfJ p (.step h (List.mem_of_getElem? hx) hs) hr
theorem ZcN {t:PB}:∀ (p:List Nat) {S E:Nat} {k:Nat} {x:RU},RunOk t S p E->t.rs[k]?=some x->stepR t x E=true->RunOk t S (p ++ [k]) (nextR x E)
 | [],S,E,k,x,hr,hx,hs=>by cases hr; exact⟨x,hx,hs,rfl⟩
 | j :: p,S,E,k,x,⟨y,hy,h1,h2⟩,hx,hs=>⟨y,hy,h1,ZcN p h2 hx hs⟩
theorem ZiU {t:PB} {S:Nat} (h:Rch t S):∃ p,RunOk t t.st p S:=by
 induction h with
 | base=>exact⟨[],rfl⟩
 | step _ hx hs ih =>
   obtain⟨p,hp⟩:=ih;obtain⟨k,hk,rfl⟩:=List.mem_iff_getElem.1 hx;exact⟨p ++ [k],ZcN p hp (Y0c hk) hs⟩
theorem able_iff {t:PB} (h:PbOk t):Able t t.st↔∃ E,Rch t E/\reachB t E=true:=by
 constructor
 . intro ha;obtain⟨p,E,h1,h2⟩:=Zhv ha;exact⟨E,ZfJ p .base h1,h2⟩
 . rintro ⟨E, h1, h2⟩;obtain⟨p,hp⟩:=ZiU h1;exact ZcM h p h.st h.sgood hp h2
structure NotFound (t:PB) (ks:List KE):Prop where
 inv:KInv t ks
 tgt:TgtIn t ks
 exp:∀ e∈ks,ExpA t e.1 ks
 no:soC (kcs ks) t.st=false
theorem NotFound.not_able {t:PB} (h:PbOk t) {ks:List KE} (hn:NotFound t ks):¬ Able t t.st:=fun ha=>by
 have:=ZfI h hn.tgt hn.exp ha;rw [hn.no] at this; cases this
def PlanOk (t:PB) (p:List Nat):Prop:=∃ E,RunOk t t.st p E/\reachB t E=true
theorem KInv.plan {t:PB} (h:PbOk t) {ks:List KE} (hk:KInv t ks) {i:Nat} {e:KE} (he:ks[i]?=some e) (hs:hoC e.1 t.st=true) {p:List Nat} (hp:PathK ks i p):PlanOk t p:=by
 obtain⟨_,E,h1,h2⟩:=Zhu h hk hp he h.st hs;exact⟨E,h1,h2⟩
theorem ZiV {t:PB} {l:List Nat} (hn:l.Nodup) (hl:∀ s∈l,InS t s):l.length<=2 ^ t.n:=by
 have hnd:(l.map (· / 2)).Nodup:=by
  rw [List.nodup_iff_pairwise_ne,List.pairwise_map];refine List.Pairwise.imp_of_mem (fun {a b} ha hb hab e=>hab ?_) (List.nodup_iff_pairwise_ne.1 hn);have x1:=Z4g (hl a ha);have x2:=Z4g (hl b hb);omega
 have:=Z2o (2 ^ t.n) _ hnd fun x hx=>by
  obtain⟨w,hw,rfl⟩:=Y0i.1 hx;exact (Z4g (hl w hw)).2
 rwa [Y0f] at this
theorem ZdV {l:List Nat} {a:Nat} (h:l.Nodup) (ha:a ∉ l):(l ++ [a]).Nodup:=by
 rw [List.nodup_append];exact⟨h,by simp,fun x hx y hy e=>by rw [Y0g] at hy; subst hy; subst e; exact ha hx⟩
def inC1 (k:Nat):List PV := [.val (.int .i64 (k:Int))]
def inL (l:List Nat):List (List PV):=l.map inC1
theorem Z16 (l:List Nat):pureLL (inL l):=Z9 (enc:=inC1) (fun _=>⟨Yt,Yt⟩) l
theorem Z6U (l:List Nat):(inL l).length=l.length:=by simp [inL]
theorem Zhw (l:List Nat) (k:Nat):inL l ++ [inC1 k]=inL (l ++ [k]):=by simp [inL]
def addN (out:List Nat) (s:Nat):List Nat:=if s∈out then out else out ++ [s]
theorem Zhx (out:List Nat) (s:Nat):s∈addN out s:=by unfold addN; split<;>simp_all
theorem Zhy (out:List Nat) (s:Nat):out <+: addN out s:=by
 unfold addN
 split
 . exact List.prefix_refl _
 . exact List.prefix_append _ _
theorem ZiW {out:List Nat} (h:out.Nodup) (s:Nat):(addN out s).Nodup:=by
 unfold addN
 split
 . exact h
 . rename_i hs; exact ZdV h hs
theorem Zhz {out:List Nat} {p:Nat->Prop} (h:∀ x∈out,p x) {s:Nat} (hs:p s):∀ x∈addN out s,p x:=fun x hx=>by
 unfold addN at hx
 split at hx
 . exact h x hx
 . rcases Y0h.1 hx with hx | hx
   . exact h x hx
   . rw [Y0g] at hx; subst hx; exact hs
structure AllI (t:PB) (at':Nat) (out:List Nat):Prop where
 nd:out.Nodup
 rch:∀ s∈out,Rch t s
 st:t.st∈out
 le:at'<=out.length
 cl:∀ i S,i<at'->out[i]?=some S->∀ x∈t.rs,stepR t x S=true->nextR x S∈out
structure AllK (t:PB) (at':Nat) (S k:Nat) (out:List Nat):Prop where
 i:AllI t at' out
 s:out[at']?=some S
 ok:∀ j x,j<k->t.rs[j]?=some x->stepR t x S=true->nextR x S∈out
theorem AllI.base (t:PB):AllI t 0 [t.st]:=⟨by simp,fun s hs=>by rw [Y0g] at hs; subst hs; exact .base,by simp,Y0l _,fun i S hi=>absurd hi (Nat.not_lt_zero i)⟩
theorem AllI.len {t:PB} (h:PbOk t) {a:Nat} {out:List Nat} (hi:AllI t a out):out.length<=2 ^ t.n:=ZiV hi.nd fun s hs=>(hi.rch s hs).inS h
theorem AllI.begin {t:PB} {a:Nat} {out:List Nat} (hi:AllI t a out) {S:Nat} (hs:out[a]?=some S):AllK t a S 0 out:=⟨hi,hs,fun j x hj=>absurd hj (Nat.not_lt_zero j)⟩
theorem Z8O {α:Type} {out out':List α} (h:out <+: out') {i:Nat} {S:α} (hs:out[i]?=some S):out'[i]?=some S:=by
 obtain⟨u,rfl⟩:=h;rw [List.getElem?_append_left (List.getElem?_eq_some_iff.1 hs).1]; exact hs
theorem pre_get' {α:Type} {out out':List α} (h:out <+: out') {i:Nat} {S:α} (hs:out'[i]?=some S) (hi:i<out.length):out[i]?=some S:=by
 obtain⟨u,rfl⟩:=h
 rwa [List.getElem?_append_left hi] at hs
theorem AllK.skip {t:PB} {a S k:Nat} {out:List Nat} (h:AllK t a S k out) {x:RU} (hx:t.rs[k]?=some x) (hn:stepR t x S=false):AllK t a S (k+1) out :=
 ⟨h.i,h.s,fun j y hj hy hs=>by
  by_cases e:j<k
  . exact h.ok j y e hy hs
  . obtain rfl : j = k := by omega
    rw [hx] at hy; cases hy
    rw [hn] at hs; cases hs⟩
theorem AllK.add {t:PB} {a S k:Nat} {out:List Nat} (h:AllK t a S k out) {x:RU} (hx:t.rs[k]?=some x) (hs:stepR t x S=true):AllK t a S (k+1) (addN out (nextR x S)):=by
 have hp:=Zhy out (nextR x S);have hS:Rch t S:=h.i.rch S (List.mem_of_getElem? h.s);refine⟨⟨ZiW h.i.nd _,Zhz h.i.rch (.step hS (List.mem_of_getElem? hx) hs),hp.subset h.i.st,Y03 h.i.le hp.length_le,fun i T hi hT y hy hs'=>?_⟩,Z8O hp h.s,fun j y hj hy hs'=>?_⟩
 . exact hp.subset (h.i.cl i T hi (pre_get' hp hT (Nat.lt_of_lt_of_le hi h.i.le)) y hy hs')
 . by_cases e : j < k
   . exact hp.subset (h.ok j y e hy hs')
   . obtain rfl : j = k := by omega
     rw [hx] at hy; cases hy;exact Zhx _ _
theorem AllK.done {t:PB} {a S k:Nat} {out:List Nat} (h:AllK t a S k out) (hk:t.rs.length<=k):AllI t (a+1) out :=
 ⟨h.i.nd,h.i.rch,h.i.st,(List.getElem?_eq_some_iff.1 h.s).1,fun i T hi hT y hy hs=>by
  by_cases e:i<a
  . exact h.i.cl i T e hT y hy hs
  . obtain rfl : i = a := by omega
    rw [h.s] at hT; cases hT;obtain⟨j,hj,rfl⟩:=List.mem_iff_getElem.1 hy
    exact h.ok j _ (by omega) (Y0c hj) hs⟩
theorem AllI.all {t:PB} {out:List Nat} (h:AllI t out.length out) {S:Nat} (hr:Rch t S):S∈out:=by
 induction hr with
 | base=>exact h.st
 | step _ hx hs ih =>
   obtain⟨i,hi,rfl⟩:=List.mem_iff_getElem.1 ih;exact h.cl i _ hi (Y0c hi) _ hx hs
theorem AllI.able {t:PB} (h:PbOk t) {out:List Nat} (hi:AllI t out.length out):out.any (reachB t)=true↔Able t t.st:=by
 rw [able_iff h,Y01];exact exists_congr fun S=>and_congr_left fun _=>⟨hi.rch S,hi.all⟩
end
section
open Go.RowKit
attribute [local irreducible] aw opsK dK
def stepN (t:PB) (x:RU) (s:Nat) (ok:Bool):PV:=.tup [.val (.int .u64 ((if ok then nextR x s else 0:Nat):Int)),.val (.bool ok)]
theorem Zbq {t:PB} (h:PbOk t) (s:Nat) (hs:s<18446744073709551616) (k:Nat) (hk:k<t.rs.length):Spec Tryz.prog 81 [.agg (pbR t),.val (.int .u64 (s:Int)),.val (.int .i64 (k:Int))] (· = stepN t t.rs[k] s (stepR t t.rs[k] s)):=by
 have hro:=h.rs _ (Y0j hk);have hpp:=Z3n t;have hrl:=Z8H t.rs;refine Yp ok81 fun C hC=>?_;refine Zs ?_;refine Zc ?_;refine Z5 rfl rfl rfl ?_;refine gd 12 ⟨?_⟩;refine Qo (Qz rfl (by omega)) ?_;refine gd 18 ⟨?_⟩;refine Zo rfl ?_;refine Qo (Qz rfl (by rw [hrl];omega)) ?_;refine gd 23 ⟨?_⟩;refine Qo (Zm (xs:=t.rs) (g:=ruR) rfl rfl k rfl hk rfl) ?_;generalize t.rs[k]=x at hro ⊢;have hxt:=hro.tg;have hp:=ZI (show x.tg<64 by omega);have hx64:=hro.m.lt (by decide);refine gd 27 ⟨?_⟩;refine Zg rfl rfl rfl (show IntKind.u64.wrap ((x.tg:Nat):Int)=((x.tg:Nat):Int) from Y0x _ ⟨by omega,by omega⟩) ?_;refine Z3Z rfl rfl (by omega) (Zb0 x.tg (by omega)) rfl ?_;refine gd 31 ⟨?_⟩;refine Zg rfl rfl rfl (bits_or_u64_nat s (2 ^ x.tg) hs hp) ?_;refine gd 33 ⟨?_⟩;have hnx:nextR x s<18446744073709551616:=by
  unfold nextR
  split
  . exact Y02 Nat.and_le_left hs
  . exact Z24 hs hp
 have hgood:=Zb9 h (nextR x s) hnx;have hclo:=Z2r t.l false h.good.small s hs;have hho:=Z3K x.cu (clo t.l s) hx64 (Z51 _ _);have hst:stepR t x s=(!decide (((nextR x s:Nat):Int)=(s:Int))&&(goodB t (nextR x s)&&(x.rev||hoC x.cu (clo t.l s)))):=by
  unfold stepR;congr 1;by_cases e:nextR x s=s
  . rw [Y0w (fun h=>h e),decide_eq_true (by rw [e])]; rfl
  . rw [decide_eq_true e,Y0w (show ¬ ((nextR x s:Nat):Int)=(s:Int) from fun h=>e (Int.ofNat.inj h))]; rfl
 rw [hst];cases hv:x.rev
 . have hnv : nextR x s = s ||| 2 ^ x.tg := by unfold nextR; rw [hv]; rfl
   rw [<- hnv];refine Qo (Z4 (v:=false) rfl hv) ?_;refine gd 39 ⟨?_⟩;cases hne:decide (((nextR x s:Nat):Int)=(s:Int))
   case true =>
    refine Qo (Z4 (v:=true) rfl hne) ?_;refine go ?_;exact Z7 rfl ⟨Yt,Yt,Yt⟩ rfl
   refine Qo (Z4 (v:=false) rfl hne) ?_;refine gd 43 ⟨?_⟩;refine Zo rfl ?_;refine Qe hgood ⟨hpp,Yt,Yt⟩ ?_;cases hg:goodB t (nextR x s)
   case false =>
    refine go ?_;exact Z7 rfl ⟨Yt,Yt,Yt⟩ rfl
   refine gd 47 ⟨?_⟩;refine Qr (Z4 (v:=false) rfl hv) ?_;refine gd 55 ⟨?_⟩;refine Z2R rfl ?_;refine Qd hclo ⟨Zl _,Yt,Yt⟩ ?_;refine gd 56 ⟨?_⟩;refine Z2R rfl ?_;refine Qd hho ⟨Z2K _,Yt,Yt⟩ ?_;cases hh:hoC x.cu (clo t.l s)
   all_goals
    refine go ?_;exact Z7 rfl ⟨Yt,Yt,Yt⟩ rfl
 . have hnv : nextR x s = minusN s (2 ^ x.tg) := by unfold nextR; rw [hv]; rfl
   refine Qo (Z4 (v:=true) rfl hv) ?_;refine gd 36 ⟨?_⟩;refine Zg rfl rfl rfl (Z1N s (2 ^ x.tg) hs hp) ?_;rw [<- hnv];refine gd 39 ⟨?_⟩;cases hne:decide (((nextR x s:Nat):Int)=(s:Int))
   case true =>
    refine Qo (Z4 (v:=true) rfl hne) ?_;refine go ?_;exact Z7 rfl ⟨Yt,Yt,Yt⟩ rfl
   refine Qo (Z4 (v:=false) rfl hne) ?_;refine gd 43 ⟨?_⟩;refine Zo rfl ?_;refine Qe hgood ⟨hpp,Yt,Yt⟩ ?_;cases hg:goodB t (nextR x s)
   case false =>
    refine go ?_;exact Z7 rfl ⟨Yt,Yt,Yt⟩ rfl
   refine gd 47 ⟨?_⟩;refine Qr (Z4 (v:=true) rfl hv) ?_;refine go ?_;exact Z7 rfl ⟨Yt,Yt,Yt⟩ rfl
def u64C (s:Nat):List PV := [.val (.int .u64 (s:Int))]
def nsL (l:List Nat):List (List PV):=l.map u64C
theorem Z1Z (l:List Nat):pureLL (nsL l):=Z9 (enc:=u64C) (fun _=>⟨Yt,Yt⟩) l
theorem Z3p (l:List Nat):(nsL l).length=l.length:=by simp [nsL]
theorem ZhA (l:List Nat) (k:Nat):nsL l ++ [u64C k]=nsL (l ++ [k]):=by simp [nsL]
theorem ZdW {t:PB} (h:PbOk t) (hn:t.n<=5):Spec Tryz.prog 31 [.agg (pbR t)] fun r=>∃ out,AllI t out.length out/\r=.vec (nsL out) false:=by
 have hpp:=Z3n t;have hrb:=h.rl;have hrl:=Z8H t.rs;have h32:2 ^ t.n<=32:=Nat.pow_le_pow_right (n:=2) (by decide) hn;refine Yp ok31 fun C hC=>?_;refine Zs ?_;refine Zc ?_;refine Z5 rfl rfl rfl ?_;refine gd 13 ⟨?_⟩;refine Z2x rfl rfl rfl ?_;refine go ?_;refine ZF hC (fun (z:Nat×List Nat)=>AllI t z.1 z.2) (fun z=>2 ^ t.n-z.1) 1 (fun z => [(1,.cp (pbR t)),(3,.own 0),(4,Yv z.1)]) (fun z => [(0,⟨1,nsL z.2⟩)]) (Y0l _) (0,[t.st]) (AllI.base t) (fun i=>i) (fun _ _=>rfl) Zt
  ⟨Qp hpp,Qw 0,Qp Yt,Yt⟩ ⟨Qs ⟨⟨Yt,Yt⟩,Yt⟩,Yt⟩ ?_
 rintro⟨a,out⟩ hi;dsimp only at hi ⊢;have hal:a<=out.length:=hi.le;have hol:=hi.len h;have hinc:IntKind.i64.wrap ((a:Int)+1)=((a+1:Nat):Int):=Y0v _ ⟨by omega,by omega⟩;refine gd 17 ⟨?_⟩;by_cases hlt:a<out.length
 case neg =>
  refine Zf (Zp (k:=3) rfl rfl (Z1Z _)) ?_;refine Qo (Qz rfl (by rw [Z3p];omega)) ?_;refine go ?_;have hae:a=out.length:=by omega
  exact Z7 rfl (Z1Z out) ⟨out,by rw [<- hae]; exact hi,rfl⟩
 refine Qo (Qy rfl (by rw [Z3p];omega)) ?_;obtain⟨S,hS⟩:∃ S,out[a]?=some S:=⟨_,Y0c hlt⟩
 refine go ?_;refine ZF hC (fun (z:Nat×List Nat)=>z.1<=t.rs.length/\AllK t a S z.1 z.2) (fun z=>t.rs.length-z.1) 1 (fun z => [(1,.cp (pbR t)),(3,.own 0),(4,.val (.int .i64 (a:Int))),(22,.val (.int .i64 (t.rs.length:Int))),(23,Yv z.1)]) (fun z => [(0,⟨1,nsL z.2⟩)]) (Y0l _) (0,out) ⟨Y0l _,hi.begin hS⟩ (fun i=>i) (fun _ _=>rfl) Zt
  ⟨Qp hpp,Qw 0,Qp Yt,⟨_,by rw [<- hrl]; rfl,.pure _ Yt⟩,Qp Yt,Yt⟩ ⟨Qs (Z1Z out),Yt⟩ ?_
 clear hi hal hol hlt hS out;rintro⟨k,out⟩ ⟨hk,hi⟩;dsimp only at hk hi ⊢;have hkinc:IntKind.i64.wrap ((k:Int)+1)=((k+1:Nat):Int):=Y0v _ ⟨by omega,by omega⟩;have hol:=hi.i.len h;refine gd 24 ⟨?_⟩;by_cases hkl:k<t.rs.length
 case neg =>
  refine Qo (Qz rfl (by omega)) ?_;refine go ?_;have h1:=hi.done (by omega);have h2:=h1.le
  refine⟨(a+1,out),fun i=>i,h1,by show 2 ^ t.n-(a+1)<2 ^ t.n-a; omega,fun _ _=>rfl,Zt,
   ⟨Qp hpp,Qw 0,⟨_,by show some _=some _; rw [hinc],.pure _ Yt⟩,Yt⟩,⟨Qs (Z1Z out),Yt⟩⟩
 refine Qo (Qy rfl (Int.ofNat_lt.2 hkl)) ?_;have hsl:=(List.getElem?_eq_some_iff.1 hi.s).1;have hSi:InS t S:=(hi.i.rch S (List.mem_of_getElem? hi.s)).inS h;have hge:(nsL out).getD a []=u64C S:=by simp [nsL,Y0b,hi.s]
 have hst:=Zbq h S (hSi.lt h.n.2) k hkl;have hxk:=Y0c hkl;refine gd 30 ⟨?_⟩;refine Qr (ZE (k:=.i64) rfl rfl rfl a rfl (by show a<(nsL out).length; rw [Z3p]; exact hsl) rfl) ?_;refine Qr (Z1S (p:=.val (.int .u64 (S:Int))) rfl rfl (by show a<(nsL out).length; rw [Z3p]; exact hsl) (by show cutAt false 1 0 ((nsL out).getD a [])=_; rw [hge]; rfl)) ?_;refine gd 33 ⟨?_⟩;refine Qd hst ⟨hpp,Yt,Yt,Yt⟩ ?_;generalize t.rs[k]=x at hxk ⊢;cases hs:stepR t x S
 case false =>
  refine go ?_
  refine⟨(k+1,out),fun i=>i,⟨hkl,hi.skip hxk hs⟩,by show t.rs.length-(k+1)<t.rs.length-k; omega,fun _ _=>rfl,Zt,
   ⟨Qp hpp,Qw 0,Qp Yt,Qp Yt,⟨_,by show some _=some _; rw [hkinc],.pure _ Yt⟩,Yt⟩,⟨Qs (Z1Z out),Yt⟩⟩
 have hadd:=hi.add hxk hs;have hstn:stepN t x S true=.tup [.val (.int .u64 ((nextR x S:Nat):Int)),.val (.bool true)]:=rfl;rw [hstn];generalize nextR x S=nx at hadd ⊢;refine go ?_;refine ZF hC (fun (i:Nat)=>i<=out.length) (fun i=>out.length-i) 1 (fun i => [(1,.cp (pbR t)),(3,.own 0),(4,.val (.int .i64 (a:Int))),(6,.val (.int .u64 (nx:Int))),(8,.val (.bool (decide (nx∈out.take i)))),(22,.val (.int .i64 (t.rs.length:Int))),(23,.val (.int .i64 (k:Int))),(38,.own 0),(39,.val (.int .i64 (out.length:Int))),(40,Yv i)]) (fun _ => [(0,⟨1,nsL out⟩)]) (Y0l _) 0 (Y0l _) (fun i=>i) (fun _ _=>rfl) Zt
  ⟨Qp hpp,Qw 0,Qp Yt,Qp Yt,⟨_,by show some _=some _; rw [Y0w (by simp)],.pure _ Yt⟩,Qp Yt,Qp Yt,Qw 0,⟨_,by rw [<- Z3p]; rfl,.pure _ Yt⟩,Qp Yt,Yt⟩ ⟨Qs (Z1Z out),Yt⟩ ?_
 intro i hio;have hiinc:IntKind.i64.wrap ((i:Int)+1)=((i+1:Nat):Int):=Y0v _ ⟨by omega,by omega⟩;refine gd 41 ⟨?_⟩;by_cases hil:i<out.length
 . refine Qo (Qy rfl (Int.ofNat_lt.2 hil)) ?_;have htk:=Z14 hil;have hgi:(nsL out).getD i []=u64C out[i]:=by simp [nsL,Y0b,hil]
   generalize out[i]=y at htk hgi;refine gd 42 ⟨?_⟩;refine Qo (ZE (k:=.i64) rfl rfl rfl i rfl (by show i<(nsL out).length; rw [Z3p]; exact hil) rfl) ?_;refine Qo (Z1S (p:=.val (.int .u64 (y:Int))) rfl rfl (by show i<(nsL out).length; rw [Z3p]; exact hil) (by show cutAt false 1 0 ((nsL out).getD i [])=_; rw [hgi]; rfl)) ?_;refine gd 46 ⟨?_⟩;by_cases hyn:y=nx
   . refine Qo (Qy rfl (by rw [hyn])) ?_;refine go ?_
     exact⟨i+1,fun i=>i,hil,by show out.length-(i+1)<out.length-i; omega,fun _ _=>rfl,Zt,
      ⟨Qp hpp,Qw 0,Qp Yt,Qp Yt,⟨_,by show some _=some _; rw [decide_eq_true (by rw [htk,hyn]; simp)],.pure _ Yt⟩,Qp Yt,Qp Yt,Qw 0,Qp Yt,⟨_,by show some _=some _; rw [hiinc],.pure _ Yt⟩,Yt⟩,⟨Qs (Z1Z out),Yt⟩⟩
   . refine Qo (Qz rfl (fun h => hyn (Int.ofNat.inj h))) ?_;refine go ?_
     exact⟨i+1,fun i=>i,hil,by show out.length-(i+1)<out.length-i; omega,fun _ _=>rfl,Zt,
      ⟨Qp hpp,Qw 0,Qp Yt,Qp Yt,⟨_,by show some (PV.val (.bool (decide (nx∈out.take i))))=some _; rw [htk,decide_eq_decide.2 (show nx∈out.take i↔nx∈out.take i ++ [y] by rw [Y0h,Y0g]; exact⟨.inl,fun h=>h.elim (fun h=>h) fun h=>absurd h.symm hyn⟩)],.pure _ Yt⟩,Qp Yt,Qp Yt,Qw 0,Qp Yt,⟨_,by show some _=some _; rw [hiinc],.pure _ Yt⟩,Yt⟩,⟨Qs (Z1Z out),Yt⟩⟩
 . refine Qo (Qz rfl (by omega)) ?_;have hie:i=out.length:=by omega
   rw [hie,Y0q];unfold addN at hadd;by_cases hm:nx∈out
   . rw [if_pos hm] at hadd;rw [decide_eq_true hm];refine go ?_
     exact⟨(k+1,out),fun i=>i,⟨hkl,hadd⟩,by show t.rs.length-(k+1)<t.rs.length-k; omega,fun _ _=>rfl,Zt,
      ⟨Qp hpp,Qw 0,Qp Yt,Qp Yt,⟨_,by show some _=some _; rw [hkinc],.pure _ Yt⟩,Yt⟩,⟨Qs (Z1Z out),Yt⟩⟩
   . rw [if_neg hm] at hadd;rw [Y0w hm];refine gd 53 ⟨?_⟩
     refine ZD (Zx (k:=0) (m := [u64C nx]) (fl:=true) rfl rfl rfl (fun q hq=>by rw [Y0g] at hq; subst hq; rfl) rfl (by
      show ((nsL out).length+1)*8<=_
      rw [Z3p];omega)) rfl rfl ?_
     simp only;rw [ZhA];refine go ?_
     exact⟨(k+1,out ++ [nx]),mv 0 1,⟨hkl,hadd⟩,by show t.rs.length-(k+1)<t.rs.length-k; omega,fun i hi=>absurd hi (Nat.not_lt_zero i),Zy rfl,
      ⟨Qp hpp,Qw 0,Qp Yt,Qp Yt,⟨_,by show some _=some _; rw [hkinc],.pure _ Yt⟩,Yt⟩,⟨Qs (Z1Z _),Yt⟩⟩
theorem Z4p {t:PB} (h:PbOk t) (hn:t.n<=5):Spec Tryz.prog 10 [.agg (pbR t)] fun r=>∃ b:Bool,(b=true↔Able t t.st)/\r=.val (.bool b):=by
 have hpp:=Z3n t;have h32:2 ^ t.n<=32:=Nat.pow_le_pow_right (n:=2) (by decide) hn;have hpc:∀ D,innL D (pbR t):=fun D=>Zv (fun _ h=>h.elim) _ hpp;refine Yp ok10 fun C hC=>?_;refine Zs ?_;refine Zc ?_;refine Z5 rfl rfl rfl ?_;refine gd 6 ⟨?_⟩;refine ZT rfl rfl (ZdW h hn) ⟨hpp,Yt⟩ rfl ?_;rintro r ⟨out,hi,rfl⟩;have hab:=hi.able h;have hol:=hi.len h;have hp:∀ D,innLL D (nsL out):=fun D=>Zb (fun _ h=>h.elim) _ (Z1Z out);refine go ?_;refine Zn hC (fun i=>i<=out.length/\(out.take i).any (reachB t)=false) (fun i=>out.length-i) 0 (fun i => [(1,.cp (pbR t)),(6,.vec (nsL out) false),(7,.val (.int .i64 (out.length:Int))),(8,Yv i)]) (fun _=>[]) (Y0l _) 0 ⟨Y0l _,by simp⟩
  ⟨⟨rfl,hpc _⟩,⟨rfl,hp _⟩,⟨by rw [<- Z3p]; rfl,Yt⟩,⟨rfl,Yt⟩,Yt⟩ Yt ?_
 rintro i ⟨hi2,hno⟩;have hinc:IntKind.i64.wrap ((i:Int)+1)=((i+1:Nat):Int):=Y0v _ ⟨by omega,by omega⟩;refine gd 9 ⟨?_⟩;by_cases hil:i<out.length
 . refine Qo (Qy rfl (Int.ofNat_lt.2 hil)) ?_;have htk:=Z14 hil;have hm:=Y0j hil;refine gd 10 ⟨?_⟩;refine Qo (Zm (xs:=out) (g:=u64C) rfl rfl i rfl hil rfl) ?_;generalize out[i]=x at htk hm ⊢;have hx:=(hi.rch x hm).inS h;refine gd 14 ⟨?_⟩;refine Qe (Z9C h x (hx.lt h.n.2)) ⟨hpp,Yt,Yt⟩ ?_;cases hr:reachB t x
   . refine go ?_;exact⟨i+1,⟨hil,by rw [htk,List.any_append,hno]; simp [hr]⟩,by omega,⟨⟨rfl,hpc _⟩,⟨rfl,hp _⟩,⟨rfl,Yt⟩,⟨by show some _=some _; rw [hinc],Yt⟩,Yt⟩,Yt⟩
   . refine go ?_;exact Z7 rfl Yt ⟨true,⟨fun _=>hab.1 (Y01.2 ⟨x,hm,hr⟩),fun _=>rfl⟩,rfl⟩
 . refine Qo (Qz rfl (by omega)) ?_;refine go ?_;have:i=out.length:=by omega
   rw [this,Y0q] at hno;exact Z7 rfl Yt ⟨false,⟨fun h=>(by cases h),fun h=>by rw [hab.2 h] at hno; cases hno⟩,rfl⟩
section
variable {P:Program} {e:Env} {h:Heap} {n:Nat}
theorem Z3q {d:Option Nat} {z:Rsv} {i mask:Nat} {op:AOp} {iso:Nat} {alt:Bool} {g:Nat×Bool} {xs:List DItem} {K:Env->Heap->Prop} (hw:wantB (some g) e=some false) (hk:dK P z n xs (updO e d pvu) h K):dK P z n (⟨i,⟨d,op,some g⟩,mask,iso,alt⟩ :: xs) e h K:=by
 unfold dK;exact⟨_,.skip hw,fun p' f' hh=>by obtain⟨rfl,rfl⟩:=hh; exact hk⟩
end
theorem ZfK:setN 0=.agg [.vec [] false]:=by unfold setN; rw [ZJ]; rfl
theorem ZcO {x:RU} (hx:x.tg<64) {s:Nat} (hs:s<18446744073709551616):nextR x s<18446744073709551616:=by
 unfold nextR
 split
 . exact Y02 Nat.and_le_left hs
 . exact Z24 hs (ZI hx)
theorem Z2i {N M:Nat} (hN:N<18446744073709551616) (hM:M<18446744073709551616) {b:Bool} (h:decide (N ||| M=M)=b):Spec Tryz.prog 75 [setN N,setN M] (· = .val (.bool b)):=h▸Z1i N M hN hM
theorem Z4i {N M:Nat} (hN:N<18446744073709551616) (hM:M<18446744073709551616) {b:Bool} (h:decide (N &&& M≠0)=b):Spec Tryz.prog 84 [setN N,setN M] (· = .val (.bool b)):=h▸Z5l N M hN hM
def satT (c:Cu) (lo hi:Nat):Nat:=if !decide (c.1 ||| hi=hi)||decide (c.2 &&& lo≠0) then 0 else if decide (c.1 ||| lo=lo) && !decide (c.2 &&& hi≠0) then 2 else 1
theorem Zj4 (c:Cu) (lo hi:Nat):satT c lo hi<=2:=by
 unfold satT
 split
 . omega
 . split<;>omega
theorem ZhH (c:Cu) (lo hi:Nat) (hc:Ok64 c) (hlo:lo<18446744073709551616) (hhi:hi<18446744073709551616):Spec Tryz.prog 208 [cuP c,setN lo,setN hi] (· = .val (.int .u8 ((satT c lo hi:Nat):Int))):=by
 refine Yp ok208 fun C hC=>?_;have hp2:∀ a b:Nat,pureL [setN a,setN b]:=fun a b=>⟨Z1 a,Z1 b,Yt⟩
 cases h1:decide (c.1 ||| hi=hi)
 case false =>
  refine gd 11 ⟨?_⟩;refine Qe (Z2i hc.1 hhi h1) (hp2 _ _) ?_;refine go ?_;exact Z7 rfl Yt (by unfold satT; rw [h1]; rfl)
 cases h2:decide (c.2 &&& lo≠0)
 case true =>
  refine gd 11 ⟨?_⟩;refine Qe (Z2i hc.1 hhi h1) (hp2 _ _) ?_;refine gd 17 ⟨?_⟩;refine Zo rfl ?_;refine Qe (Z4i hc.2 hlo h2) (hp2 _ _) ?_;refine go ?_;exact Z7 rfl Yt (by unfold satT; rw [h1,h2]; rfl)
 cases h3:decide (c.1 ||| lo=lo)
 case false =>
  refine gd 11 ⟨?_⟩;refine Qe (Z2i hc.1 hhi h1) (hp2 _ _) ?_;refine gd 17 ⟨?_⟩;refine Zo rfl ?_;refine Qe (Z4i hc.2 hlo h2) (hp2 _ _) ?_;refine gd 23 ⟨?_⟩;refine Qe (Z2i hc.1 hlo h3) (hp2 _ _) ?_;refine go ?_;exact Z7 rfl Yt (by unfold satT; rw [h1,h2,h3]; rfl)
 cases h4:decide (c.2 &&& hi≠0)
 case true =>
  refine gd 11 ⟨?_⟩;refine Qe (Z2i hc.1 hhi h1) (hp2 _ _) ?_;refine gd 17 ⟨?_⟩;refine Zo rfl ?_;refine Qe (Z4i hc.2 hlo h2) (hp2 _ _) ?_;refine gd 23 ⟨?_⟩;refine Qe (Z2i hc.1 hlo h3) (hp2 _ _) ?_;refine gd 28 ⟨?_⟩;refine Zo rfl ?_;refine Qe (Z4i hc.2 hhi h4) (hp2 _ _) ?_;refine go ?_;exact Z7 rfl Yt (by unfold satT; rw [h1,h2,h3,h4]; rfl)
 case false =>
  refine gd 11 ⟨?_⟩;refine Qe (Z2i hc.1 hhi h1) (hp2 _ _) ?_;refine gd 17 ⟨?_⟩;refine Zo rfl ?_;refine Qe (Z4i hc.2 hlo h2) (hp2 _ _) ?_;refine gd 23 ⟨?_⟩;refine Qe (Z2i hc.1 hlo h3) (hp2 _ _) ?_;refine gd 28 ⟨?_⟩;refine Zo rfl ?_;refine Qe (Z4i hc.2 hhi h4) (hp2 _ _) ?_;refine go ?_;exact Z7 rfl Yt (by unfold satT; rw [h1,h2,h3,h4]; rfl)
def someT (l:List Cu) (lo hi:Nat):Nat:=l.foldl (fun a c=>max a (satT c lo hi)) 0
theorem Ze3 {l:List Cu} {i:Nat} (hi:i<l.length) (lo hh:Nat):someT (l.take (i+1)) lo hh=max (someT (l.take i) lo hh) (satT l[i] lo hh):=by
 unfold someT;rw [List.take_succ_eq_append_getElem hi,List.foldl_append]
 rfl
theorem Z9R (l:List Cu) (lo hi:Nat):∀ a,a<=2->l.foldl (fun a c=>max a (satT c lo hi)) a<=2:=by
 induction l with
 | nil=>exact fun a h=>h
 | cons c l ih=>exact fun a h=>ih _ (Nat.max_le.2 ⟨h,Zj4 _ _ _⟩)
theorem ZhI (l:List Cu) (lo hi:Nat):someT l lo hi<=2:=Z9R l lo hi 0 (by decide)
theorem Z9S (l:List Cu) (fl:Bool) (lo hi:Nat) (hl:∀ c∈l,Ok64 c) (hll:l.length<900000) (hlo:lo<18446744073709551616) (hhi:hi<18446744073709551616):Spec Tryz.prog 196 [.vec (l.map cuC) fl,setN lo,setN hi] (· = .val (.int .u8 ((someT l lo hi:Nat):Int))):=by
 refine Yp ok196 fun C hC=>?_;have hml:(l.map cuC).length=l.length:=Y0f ..;have hpi:∀ D,innLL D (l.map cuC):=fun D=>Zb (fun _ h=>h.elim) _ (Z9 Ze l);refine gd 4 ⟨?_⟩;refine Z5 rfl rfl rfl ?_;refine Z5 rfl rfl rfl ?_;refine go ?_;refine Zn hC (fun i=>i<=l.length) (fun i=>l.length-i) 0 (fun i => [(4,.cp [.vec (words (digs lo)) false]),(5,.cp [.vec (words (digs hi)) false]),(7,.val (.int .u8 ((someT (l.take i) lo hi:Nat):Int))),(10,.vec (l.map cuC) fl),(11,.val (.int .i64 (l.length:Int))),(12,Yv i)]) (fun _=>[]) (Y0l _) 0 (Y0l _)
  ⟨⟨rfl,Zj _ _,Yt⟩,⟨rfl,Zj _ _,Yt⟩,⟨rfl,Yt⟩,⟨rfl,hpi _⟩,⟨by rw [<- hml]; rfl,Yt⟩,⟨rfl,Yt⟩,Yt⟩ Yt ?_
 intro i hi';have hinc:IntKind.i64.wrap ((i:Int)+1)=((i+1:Nat):Int):=Y0v _ ⟨by omega,by omega⟩;refine gd 13 ⟨?_⟩;by_cases hil:i<l.length
 . refine Qo (Qy rfl (by omega)) ?_;have hci:=hl l[i] (Y0j hil);have hst:=Ze3 hil lo hi;refine gd 14 ⟨?_⟩;refine Qo (Zm (xs:=l) (g:=cuC) rfl rfl i rfl hil rfl) ?_;generalize l[i]=c at hci hst;refine gd 20 ⟨?_⟩;refine Qe (ZhH c lo hi hci hlo hhi) ⟨Zu _,Z1 _,Z1 _,Yt⟩ ?_;refine Zg (v:=((someT (l.take (i+1)) lo hi:Nat):Int)) rfl rfl rfl (by rw [hst]; split<;>omega) ?_;refine go ?_;exact⟨i+1,by omega,by omega,⟨⟨rfl,Zj _ _,Yt⟩,⟨rfl,Zj _ _,Yt⟩,⟨rfl,Yt⟩,⟨rfl,hpi _⟩,⟨rfl,Yt⟩,⟨by show some _=some _; rw [hinc],Yt⟩,Yt⟩,Yt⟩
 . obtain rfl : i = l.length := by omega
   refine Qo (Qz rfl (by omega)) ?_;rw [Y0q];refine go ?_;exact Z7 rfl Yt rfl
theorem Z7R (a b:Nat):minusN a b<=a:=Nat.and_le_left
structure ND where
 cl:Bool
 dr:Bool
 mu:Bool
 af:Nat
 so:List Cu
 no:List Cu
 sf:Bool
 nf:Bool
def ndP (d:ND):List PV := [.val (.bool d.cl),.val (.bool d.dr),.val (.bool d.mu),.val (.int .i64 (d.af:Int)),.vec (d.so.map cuC) d.sf,.vec (d.no.map cuC) d.nf]
theorem Z2s (d:ND):pureL (ndP d):=⟨Yt,Yt,Yt,Yt,Z9 Ze _,Z9 Ze _,Yt⟩
structure NdOk (d:ND):Prop where
 af:d.af<64
 so:∀ c∈d.so,Ok64 c
 no:∀ c∈d.no,Ok64 c
 sl:d.so.length<900000
 nl:d.no.length<900000
def aftN (d:ND) (x:Nat):Nat:=if 0<d.af then (if d.dr then minusN x (2 ^ d.af) else x ||| 2 ^ d.af) else x
def bndN (cl:Nat->Nat) (d:ND) (x:Nat):Nat:=if d.cl then cl (aftN d x) else aftN d x
theorem Zbt {d:ND} (hd:d.af<64) {x:Nat} (hx:x<18446744073709551616):aftN d x<18446744073709551616:=by
 unfold aftN
 split
 . split
   . exact Y02 (Z7R ..) hx
   . exact Z2C hx (ZI hd)
 . exact hx
theorem ZfV {d:ND} (hd:d.af<64) (l:List Pr) {x:Nat} (hx:x<18446744073709551616):bndN (clo l) d x<18446744073709551616:=by
 unfold bndN
 split
 . exact Z51 _ _
 . exact Zbt hd hx
abbrev sBx (N:Nat):Bx:=⟨1,[[.vec (words (digs N)) false]]⟩
theorem Z2D (D:Nat->Prop) (N:Nat):innLL D (sBx N).elems:=⟨⟨Zj _ _,Yt⟩,Yt⟩
theorem Zbu (d:ND) (hd:NdOk d) (t:PB) (S:List Nat) (lo hi:Nat) (hlo:lo<18446744073709551616) (hhi:hi<18446744073709551616):Spec Tryz.prog 195 [.agg (ndP d),.agg (pbP t S),setN lo,setN hi] (· = .tup [setN (bndN (clo t.l) d lo),setN (bndN (clo t.l) d hi)]):=by
 refine Yp ok195 fun C hC=>?_;have hnp:=Z2s d;have hpp:=ZL t S;have hni:∀ D,innL D (ndP d):=fun D=>Zv (fun _ h=>h.elim) _ hnp;have hpi:∀ D,innL D (pbP t S):=fun D=>Zv (fun _ h=>h.elim) _ hpp;have haf:=hd.af;have hal:=Zbt haf hlo;have hah:=Zbt haf hhi;have hp2:∀ (a:Nat) (k:Int),pureL [setN a,.val (.int .i64 k)]:=fun a k=>⟨Z1 a,Yt,Yt⟩
 refine gd 4 ⟨?_⟩;refine Z5 rfl rfl rfl ?_;refine Z5 rfl rfl rfl ?_
 iterate 4 (first|refine st ?_|(apply B<;>intro hb<;>try cases hb))
 iterate 1 (first|refine st ?_|(apply B<;>intro hb<;>try cases hb))
 refine Zca hC True 4 [(4,.cp (ndP d)),(5,.cp (pbP t S)),(6,.ptr 0 0 0),(7,.ptr 1 0 0),(8,.ptr 2 0 0),(9,.ptr 3 0 0)] [(0,sBx (aftN d lo)),(1,sBx (aftN d hi)),(2,⟨1,[[.vec [] true]]⟩),(3,⟨1,[[.vec [] true]]⟩)] (by decide) ?_ (fun _=>?_)
 . by_cases h0 : 0 < d.af
   . cases hdr : d.dr
     . have e1 : ∀ x, aftN d x = x ||| 2 ^ d.af := fun x => by unfold aftN; rw [if_pos h0, hdr]; rfl
       refine gd 12 ⟨?_⟩;refine Qo (Qy rfl (by omega)) ?_;refine gd 15 ⟨?_⟩;refine Zo rfl ?_;refine Qo (Z4 (v:=false) rfl hdr) ?_;refine gd 27 ⟨?_⟩;refine Qo (Qy rfl (by omega)) ?_;refine gd 31 ⟨?_⟩;refine Qd (Z13 lo hlo d.af haf) (hp2 _ _) ?_;refine gd 35 ⟨?_⟩;refine Qd (Z13 hi hhi d.af haf) (hp2 _ _) ?_;refine go ?_;exact⟨Yt,⟨⟨rfl,hni _⟩,⟨rfl,hpi _⟩,⟨rfl,show 0<4 by decide⟩,⟨rfl,show 1<4 by decide⟩,⟨rfl,show 2<4 by decide⟩,⟨rfl,show 3<4 by decide⟩,Yt⟩,⟨⟨by decide,by rw [e1]; rfl,Z2D _ _⟩,⟨by decide,by rw [e1]; rfl,Z2D _ _⟩,⟨by decide,rfl,⟨⟨Yt,Yt⟩,Yt⟩⟩,⟨by decide,rfl,⟨⟨Yt,Yt⟩,Yt⟩⟩,Yt⟩⟩
     . have e1 : ∀ x, aftN d x = minusN x (2 ^ d.af) := fun x => by unfold aftN; rw [if_pos h0, hdr]; rfl
       have w1:=Z10 lo hlo (d.af:Int);have w2:=Z10 hi hhi (d.af:Int);rw [Z1z hlo haf] at w1;rw [Z1z hhi haf] at w2;refine gd 12 ⟨?_⟩;refine Qo (Qy rfl (by omega)) ?_;refine gd 15 ⟨?_⟩;refine Zo rfl ?_;refine Qo (Z4 (v:=true) rfl hdr) ?_;refine gd 20 ⟨?_⟩;refine Qd w1 (hp2 _ _) ?_;refine gd 24 ⟨?_⟩;refine Qd w2 (hp2 _ _) ?_;refine go ?_;exact⟨Yt,⟨⟨rfl,hni _⟩,⟨rfl,hpi _⟩,⟨rfl,show 0<4 by decide⟩,⟨rfl,show 1<4 by decide⟩,⟨rfl,show 2<4 by decide⟩,⟨rfl,show 3<4 by decide⟩,Yt⟩,⟨⟨by decide,by rw [e1]; rfl,Z2D _ _⟩,⟨by decide,by rw [e1]; rfl,Z2D _ _⟩,⟨by decide,rfl,⟨⟨Yt,Yt⟩,Yt⟩⟩,⟨by decide,rfl,⟨⟨Yt,Yt⟩,Yt⟩⟩,Yt⟩⟩
   . have e1 : ∀ x, aftN d x = x := fun x => by unfold aftN; rw [if_neg h0]
     refine gd 12 ⟨?_⟩;refine Qo (Qz rfl (by omega)) ?_;refine gd 27 ⟨?_⟩;refine Qo (Qz rfl (by omega)) ?_;refine go ?_;exact⟨Yt,⟨⟨rfl,hni _⟩,⟨rfl,hpi _⟩,⟨rfl,show 0<4 by decide⟩,⟨rfl,show 1<4 by decide⟩,⟨rfl,show 2<4 by decide⟩,⟨rfl,show 3<4 by decide⟩,Yt⟩,⟨⟨by decide,by rw [e1]; rfl,Z2D _ _⟩,⟨by decide,by rw [e1]; rfl,Z2D _ _⟩,⟨by decide,rfl,⟨⟨Yt,Yt⟩,Yt⟩⟩,⟨by decide,rfl,⟨⟨Yt,Yt⟩,Yt⟩⟩,Yt⟩⟩
 . cases hcl : d.cl
   . have e2 : ∀ x, bndN (clo t.l) d x = aftN d x := fun x => by unfold bndN; rw [hcl]; rfl
     rw [e2,e2];refine gd 37 ⟨?_⟩;refine Qo (Z4 (v:=false) rfl hcl) ?_
     repeat' (first|refine Z2l [] [(2,4)] [15,15,11,15] (by kernel_rfl) ?_|(first|refine st ?_|(apply B<;>intro hb<;>try cases hb)))
     exact Z7 rfl ⟨Z1 _,Z1 _,Yt⟩ rfl
   . have e2 : ∀ x, bndN (clo t.l) d x = clo t.l (aftN d x) := fun x => by unfold bndN; rw [hcl]; rfl
     rw [e2,e2];refine gd 37 ⟨?_⟩;refine Qo (Z4 (v:=true) rfl hcl) ?_;refine gd 41 ⟨?_⟩;refine Qd (Z1P t.l S _ hal) ⟨Zw _ _,Z1 _,Yt⟩ ?_;refine gd 45 ⟨?_⟩;refine Qd (Z1P t.l S _ hah) ⟨Zw _ _,Z1 _,Yt⟩ ?_
     repeat' (first|refine Z2l [] [(2,4)] [15,15,11,15] (by kernel_rfl) ?_|(first|refine st ?_|(apply B<;>intro hb<;>try cases hb)))
     exact Z7 rfl ⟨Z1 _,Z1 _,Yt⟩ rfl
def valT (cl:Nat->Nat) (d:ND) (lo hi:Nat):Nat :=
 if d.mu then min (2-someT d.no (bndN cl d lo) (bndN cl d hi)) (someT d.so (bndN cl d lo) (bndN cl d hi)) else 2-someT d.no (bndN cl d lo) (bndN cl d hi)
theorem Zbv (d:ND) (hd:NdOk d) (t:PB) (S:List Nat) (lo hi:Nat) (hlo:lo<18446744073709551616) (hhi:hi<18446744073709551616):Spec Tryz.prog 184 [.agg (ndP d),.agg (pbP t S),setN lo,setN hi] (· = .val (.int .u8 ((valT (clo t.l) d lo hi:Nat):Int))):=by
 refine Yp ok184 fun C hC=>?_;have hnp:=Z2s d;have hpp:=ZL t S;have hb:=Zbu d hd t S lo hi hlo hhi;have hbl:=ZfV hd.af t.l hlo;have hbh:=ZfV hd.af t.l hhi;have hn2:=ZhI d.no (bndN (clo t.l) d lo) (bndN (clo t.l) d hi);have hno:=Z9S d.no d.nf _ _ hd.no hd.nl hbl hbh;have hso:=Z9S d.so d.sf _ _ hd.so hd.sl hbl hbh;have hv:valT (clo t.l) d lo hi=if d.mu then min (2-someT d.no (bndN (clo t.l) d lo) (bndN (clo t.l) d hi)) (someT d.so (bndN (clo t.l) d lo) (bndN (clo t.l) d hi)) else 2-someT d.no (bndN (clo t.l) d lo) (bndN (clo t.l) d hi):=rfl
 generalize bndN (clo t.l) d lo=x at *;generalize bndN (clo t.l) d hi=y at *;refine gd 4 ⟨?_⟩;refine Z5 rfl rfl rfl ?_;refine Z5 rfl rfl rfl ?_;refine gd 15 ⟨?_⟩;refine Qe hb ⟨hnp,hpp,Z1 _,Z1 _,Yt⟩ ?_;refine gd 22 ⟨?_⟩;refine Qe hno ⟨Z9 Ze _,Z1 _,Z1 _,Yt⟩ ?_
 refine Zg (v:=((2-someT d.no x y:Nat):Int)) rfl rfl rfl (by
  rw [show (2:Int)-((someT d.no x y:Nat):Int)=((2-someT d.no x y:Nat):Int) by omega]
  exact IntWalk.u8_in _ ⟨by omega,by omega⟩) ?_
 refine gd 25 ⟨?_⟩;cases hm:d.mu
 . refine Qo (Z4 (v := false) rfl hm) ?_;rw [hm] at hv;rw [hv];refine go ?_;exact Z7 rfl Yt rfl
 . refine Qo (Z4 (v := true) rfl hm) ?_;rw [hm] at hv;refine gd 31 ⟨?_⟩;refine Qe hso ⟨Z9 Ze _,Z1 _,Z1 _,Yt⟩ ?_;refine Zg (v:=((valT (clo t.l) d lo hi:Nat):Int)) rfl rfl rfl (by rw [hv,if_pos rfl]; split<;>omega) ?_;refine go ?_;exact Z7 rfl Yt rfl
theorem Ze4 {α:Type} (p:α->Bool) {l:List α} {i:Nat} (hi:i<l.length):(l.take (i+1)).all p=((l.take i).all p&&p l[i]):=by
 rw [List.take_add_one,Y0c hi,List.all_append];simp
theorem Zbw {α:Type} (p:α->Bool) {l:List α} {i:Nat} (h:(l.take i).all p=false):l.all p=false:=by
 apply tb2;intro h2;rw [List.all_eq_true] at h2;rw [List.all_eq_false] at h;obtain⟨x,hx,h3⟩:=h;exact h3 (h2 x (List.mem_of_mem_take hx))
theorem ZfW {b c:Cu} {l:List Cu} (h1:emC c=false) (h2:emC (bothC c b)=true):covL (b :: l) c=covL l c:=by
 rw [covL,h1,Bool.false_or,if_pos h2]
theorem ZfX {b c:Cu} {l:List Cu} (h1:emC c=false) (h2:emC (bothC c b)=false):covL (b :: l) c=(minC c b).all fun x=>covL l x:=by
 rw [covL,h1,Bool.false_or,if_neg (by rw [h2]; decide)]
theorem Ze5:∀ (m:Nat) (l:List Cu),l.length<m->l.length<=1000000->(∀ c∈l,Ok64 c)->∀ (c:Cu) (fl:Bool),Ok64 c->Spec Tryz.prog 101 [cuP c,.vec (l.map cuC) fl] (· = .val (.bool (covL l c))):=by
 intro m
 induction m with
 | zero=>intro l hm; omega
 | succ m ih =>
   intro l hm hlen hl c fl hc;have hlp:∀ (l:List Cu) D,innLL D (l.map cuC):=fun i D=>Zb (fun _ h=>h.elim) _ (Z9 Ze _);refine Yp ok101 fun C hC=>?_;refine Zs ?_;refine Zc ?_;refine Z5 rfl rfl rfl ?_;refine go ?_;refine Qe (Z18 c hc) ⟨Zu c,Yt⟩ ?_;cases hec:emC c
   case true =>
    refine go ?_;have h1:covL l c=true:=by cases l<;>(unfold covL; rw [hec]; try rfl)
    exact Z7 rfl Yt (by rw [h1])
   refine go ?_;refine Zn hC (fun (x:Nat×Bool)=>x.1<=l.length/\covL l c=covL (l.drop x.1) c) (fun x=>l.length-x.1) 0 (fun x => [(1,.vec ((l.drop x.1).map cuC) x.2),(2,.cp (cuC c))]) (fun _=>[]) (Y0m _) (0,fl) ⟨Y0l _,rfl⟩
    ⟨⟨rfl,hlp _ _⟩,⟨rfl,Zj _ _,Zj _ _,Yt⟩,Yt⟩ Yt ?_
   rintro⟨i,fl2⟩ ⟨hi,hcov⟩;dsimp only at hi hcov ⊢;have hrest:l.drop (i+1)=(l.drop i).drop 1:=by rw [List.drop_drop]
   have hdl:(l.drop i).length=l.length-i:=List.length_drop;have hmem:∀ x∈l.drop i,Ok64 x:=fun x hx=>hl x (List.mem_of_mem_drop hx);generalize l.drop i=lr at hcov hrest hdl hmem ⊢;cases lr with
   | nil =>
     refine go ?_;exact Z7 rfl Yt (by rw [hcov,covL,hec])
   | cons b rest =>
     have hb0:Ok64 b:=hmem b (Y0t ..);have hro:∀ x∈rest,Ok64 x:=fun x hx=>hmem x (List.mem_cons_of_mem _ hx);rw [Y04] at hdl;rw [List.drop_succ_cons,List.drop_zero] at hrest;have htd:((b :: rest).take (rest.length+1)).drop 1=rest:=by simp
     iterate 5 (first|refine st ?_|(apply B<;>intro hb<;>try cases hb))
     refine Qr (Z4 (v:=true) rfl (by simp; try omega)) ?_;refine go ?_;refine Qr (Zm (xs:=b :: rest) (g:=cuC) rfl rfl 0 rfl (Nat.zero_lt_succ _) rfl) ?_;rw [show (b :: rest)[0]=b from rfl];refine go ?_;refine Qd (Z7C c b hc hb0) ⟨Zu c,Zu b,Yt⟩ ?_;refine go ?_;refine Qd (Z18 (bothC c b) (Zcp hc hb0)) ⟨Zu _,Yt⟩ ?_;cases hm2:emC (bothC c b)
     case true =>
      refine go ?_;refine Qo (Z9c (xs:=b :: rest) (g:=cuC) rfl 1 (rest.length+1) rfl (by show some _=some _; simp) (by omega) (by simp) (fun _=>rfl)) ?_;rw [htd];refine go ?_;exact⟨(i+1,false),⟨by show i+1<=_; omega,by show _=covL (l.drop (i+1)) c; rw [hcov,hrest,ZfW hec hm2]⟩,by show _-(i+1)<_-i; omega,⟨⟨by show _=some (PV.vec ((l.drop (i+1)).map cuC) false); rw [hrest]; rfl,hlp _ _⟩,⟨rfl,Zj _ _,Zj _ _,Yt⟩,Yt⟩,Yt⟩
     have hst:=ZfX (l:=rest) hec hm2;rw [<- hcov] at hst
     iterate 14 (first|refine st ?_|(apply B<;>intro hb<;>try cases hb))
     refine go ?_;refine Qr (Zm (xs:=b :: rest) (g:=cuC) rfl rfl 0 rfl (Nat.zero_lt_succ _) rfl) ?_;rw [show (b :: rest)[0]=b from rfl];refine go ?_;refine Qd (Z7N c b hc hb0) ⟨Zu c,Zu b,Yt⟩ ?_;have hml:=Zcv c b hc;have hmo:=ZiG (b:=b) hc;generalize minC c b=ms at hst hml hmo ⊢;have hmll:(ms.map cuC).length=ms.length:=by simp
     refine go ?_;refine Zn hC (fun j=>j<=ms.length/\((ms.take j).all fun x=>covL rest x)=true) (fun j=>ms.length-j) 0 (fun j => [(1,.vec ((b :: rest).map cuC) fl2),(29,.vec (ms.map cuC) false),(30,.val (.int .i64 ms.length)),(31,Yv j)]) (fun _=>[]) (Y0l _) 0 ⟨Y0l _,rfl⟩
      ⟨⟨rfl,hlp _ _⟩,⟨rfl,hlp _ _⟩,⟨by rw [<- hmll]; rfl,Yt⟩,⟨rfl,Yt⟩,Yt⟩ Yt ?_
     rintro j ⟨hj,hall⟩;have hinc:IntKind.i64.wrap ((j:Int)+1)=((j+1:Nat):Int):=Y0v _ ⟨by omega,by omega⟩
     iterate 2 (first|refine st ?_|(apply B<;>intro hb<;>try cases hb))
     refine Zq rfl rfl rfl (fun hb=>?_) (fun hb=>?_)
     . have hjl : j < ms.length := by have := Y0u hb; omega
       have hxo:=hmo _ (Y0j hjl);have hsx:=Ze4 (fun x=>covL rest x) hjl;rw [hall,Bool.true_and] at hsx;clear hb;refine go ?_;refine Qo (Zm (xs:=ms) (g:=cuC) rfl rfl j rfl hjl rfl) ?_;refine go ?_;refine Qr (Z9c (xs:=b :: rest) (g:=cuC) rfl 1 (rest.length+1) rfl (by show some _=some _; simp) (by omega) (by simp) (fun _=>rfl)) ?_;rw [htd];refine go ?_;refine Qd (ih rest (by omega) (by omega) hro ms[j] false hxo) ⟨Zu _,Z9 Ze _,Yt⟩ ?_;generalize covL rest ms[j]=v at hsx;cases v
       . refine go ?_;exact Z7 rfl Yt (by rw [hst,Zbw _ hsx])
       . refine go ?_;exact⟨j+1,⟨by omega,hsx⟩,by omega,⟨⟨rfl,hlp _ _⟩,⟨rfl,hlp _ _⟩,⟨rfl,Yt⟩,⟨by show some _=some _; rw [hinc],Yt⟩,Yt⟩,Yt⟩
     . have hjl : j = ms.length := by have := of_decide_eq_false hb; omega
       subst hjl;rw [Y0q] at hall;clear hb;refine go ?_;exact Z7 rfl Yt (by rw [hst,hall])
end
section
open Go.RowKit
def kidB (q:List PV) (i j:Nat):Bx:=⟨q.length+2,[.own i :: .own j :: q]⟩
section
variable {P:Program} {C:Ctx} {Fr:Nat->Prop} {e:Env} {h:Heap} {n:Nat} {F:Froz} {φ:Locs} {a:Act} {w:World}
theorem Z70 {φ':Locs} {v:Value} {i i':Nat} (hi:φ i=φ' i') (hr:Rep F φ v (.own i)):Rep F φ' v (.own i'):=Z6b F φ φ' v i i' hi hr
theorem ObAt.kid {φ':Locs} {loc:Loc} {q:List PV} {i j i' j':Nat} (h2:ObAt F φ w loc (kidB q i j)) (hi:φ i=φ' i') (hj:φ j=φ' j') (hq:pureL q):ObAt F φ' w loc (kidB q i' j'):=by
 have h2:=h2.cellsB (show 0<q.length+2 by omega);refine .inl ⟨h2.esz,h2.pos,h2.len,h2.cap,h2.max,fun c hc=>?_,fun hc=>?_⟩
 . have hc : c ∈ [PV.own i' :: .own j' :: q] := hc;rw [Y0g] at hc;subst hc;rw [<- h2.esz]; rfl
 . obtain ⟨x, hx, hs, cells, t, hg, hsz, hrep⟩ := h2.room hc;refine⟨x,hx,hs,cells,t,hg,hsz,fun a b ha hb=>⟨(hrep a b ha hb).1,?_⟩⟩;have hr:=(hrep a b ha hb).2;have hl:loc.len=1:=by rw [<- h2.len]; rfl
   obtain rfl:a=0:=by omega
   match b,hr with
   | 0,hr=>exact Z70 hi hr
   | 1,hr=>exact Z70 hj hr
   | b+2,hr=>exact Rep.pure (p:=q.getD b pvu) hr (ZN hq b)
def K2Spec (P:Program) (f:FuncId) (pre post q:List PV) (b1 b2:Bx) (R:PV->Bx->Bx->Prop):Prop :=
 ISpec P f 3 (pre++.ptr 0 0 0 :: post) (heapL [(0,kidB q 1 2),(1,b1),(2,b2)]) fun n' r h'=>∃ j1 j2 b1' b2',j1≠j2/\j1≠0/\j2≠0/\h' 0=some (kidB q j1 j2)/\h' j1=some b1'/\h' j2=some b2'/\r.pure/\pureLL b1'.elems/\pureLL b2'.elems/\R r b1' b2'
theorem Z7S {F:Froz} {φ φ':Locs} {vs:Array Value} {pre post:List PV} {p p':PV} (hpre:pureL pre) (hpost:pureL post) (hp:∀ v,Rep F φ v p->Rep F φ' v p') (hv:RepL F φ vs (pre++p :: post)):RepL F φ' vs (pre++p' :: post):=by
 refine⟨by rw [hv.1]; simp,fun i hi=>?_⟩;have hr:=hv.2 i (by simp at hi ⊢; exact hi);by_cases h1:i<pre.length
 . have e1 : (pre ++ p :: post).getD i pvu = pre.getD i pvu := by simp [Y0b, List.getElem?_append_left h1]
   have e2:(pre++p' :: post).getD i pvu=pre.getD i pvu:=by simp [Y0b,List.getElem?_append_left h1]
   rw [e1] at hr; rw [e2];exact hr.pure (ZN hpre i)
 . have e1 : (pre ++ p :: post).getD i pvu = (p :: post).getD (i - pre.length) pvu := by simp [Y0b, List.getElem?_append_right (Nat.le_of_not_lt h1)]
   have e2:(pre++p' :: post).getD i pvu=(p' :: post).getD (i-pre.length) pvu:=by simp [Y0b,List.getElem?_append_right (Nat.le_of_not_lt h1)]
   rw [e1] at hr; rw [e2]
   match hk:i-pre.length,hr with
   | 0,hr=>exact hp _ hr
   | k+1,hr=>exact Rep.pure (p:=post.getD k pvu) hr (ZN hpost k)
theorem K2Spec.run {f:FuncId} {pre post q:List PV} {b1 b2:Bx} {R:PV->Bx->Bx->Prop} (hs:K2Spec P f pre post q b1 b2 R) (hpre:pureL pre) (hpost:pureL post) (hq:pureL q) (hp1:pureLL b1.elems) (hp2:pureLL b2.elems) {k i j n:Nat} (hn:Fr n) (hn1:Fr (n+1)) (hk:h k=some (kidB q i j)) (hi:h i=some b1) (hj:h j=some b2) (hij:i≠j) (hik:i≠k) (hjk:j≠k)
 (s:St' C Fr e h F φ a w) {vs:Array Value} (hv:RepL F φ vs (pre++.ptr k 0 0 :: post)) :
 Calls P f vs w fun en w'=>∃ v r b1' b2' F' φ',en=.returned v/\(r.pure/\pureLL b1'.elems/\pureLL b2'.elems/\R r b1' b2')/\Rep F' φ' v r/\St' C (fun x=>Fr x/\x≠n/\x≠n+1) e (((((h.del i).del j).upd k (kidB q n (n+1))).upd n b1').upd (n+1) b2') F' φ' a w':=by
 obtain⟨lk,hlk,hbk,hhk⟩:=s.live k _ hk;obtain⟨li,hli,hbi,hhi⟩:=s.live i _ hi;obtain⟨lj,hlj,hbj,hhj⟩:=s.live j _ hj
 let φ1:Locs:=fun x=>if x=0 then some lk else if x=1 then some li else if x=2 then some lj else none
 let C1:Ctx:=⟨w,fun g=>lk.has g \/ li.has g \/ lj.has g,F,C.nt,φ1⟩
 have hφn:φ n=none:=s.free n hn;have hφn1:φ (n+1)=none:=s.free _ hn1;have hnone:∀ {x:Nat} {bx:Bx},h x=some bx->x≠n/\x≠n+1:=by
  intro x bx hx;obtain⟨loc,h1,_⟩:=s.live x bx hx;exact⟨fun e=>(by rw [e,hφn] at h1; cases h1),fun e=>(by rw [e,hφn1] at h1; cases h1)⟩
 have hG:∀ g,C1.G g->C.w0.heap.size<=g \/ C.G g:=fun g hg=>hg.elim (fun h=>(hhk g h).1) fun hg=>hg.elim (fun h=>(hhi g h).1) fun h=>(hhj g h).1;have hth:∀ {loc:Loc} {b:Bx} {g:Nat},ObAt F φ w loc b->loc.has g->∀ o:Obj,w.heap[g]?=some o->¬ o=.deferred (some []):=by
  rintro loc b g hb hg o ho rfl;rcases hb.there hg with⟨cells,t,hg⟩|⟨es,t,hg⟩
  . rw [hg] at ho; cases ho
  . rw [hg] at ho; cases ho
 have hcells:∀ g,C1.G g->∀ o:Obj,w.heap[g]?=some o->¬ o=.deferred (some []):=fun g hg=>hg.elim (hth hbk) fun hg=>hg.elim (hth hbi) (hth hbj);have h0:∀ {x:Nat} {b0:Bx},(heapL [(0,kidB q 1 2),(1,b1),(2,b2)]) x=some b0->(x=0/\b0=kidB q 1 2) \/ (x=1/\b0=b1) \/ (x=2/\b0=b2):=by
  intro x b0 hx;have:=Z1x hx;simp only [List.mem_cons,Prod.mk.injEq,List.not_mem_nil,or_false] at this;exact this
 have s1:St' C1 (fun x=>3<=x) (fun _=>none) (heapL [(0,kidB q 1 2),(1,b1),(2,b2)]) F φ1 { a with defers := [] } w:=by
  refine { nt:=s.nt,glob:=s.glob,marks:=Marks.nil rfl,loc0:=fun i x hx=>hx,free:=fun i hi=>?_,env:=fun j p hp=>(by cases hp),froz:=s.froz,ext:=fun _ _ h=>h,old:=fun _ _ _=>rfl,os:=rfl,tape:=rfl,output:=rfl,size:=Y0m _,kept:=fun _ _ _=>rfl,live:=fun x b0 hx=>?_,sep:=fun x y bx bY lx ly g hx hy hlx hly hgx hgy=>?_ }
  . simp only [φ1]; rw [if_neg (by omega),if_neg (by omega),if_neg (by omega)]
  . rcases h0 hx with ⟨rfl, rfl⟩ | ⟨rfl, rfl⟩ | ⟨rfl, rfl⟩
    . exact⟨lk,rfl,hbk.kid (by rw [hli]; rfl) (by rw [hlj]; rfl) hq,fun g hg=>⟨.inr (.inl hg),(hhk g hg).2⟩⟩
    . exact⟨li,rfl,hbi.names hp1,fun g hg=>⟨.inr (.inr (.inl hg)),(hhi g hg).2⟩⟩
    . exact⟨lj,rfl,hbj.names hp2,fun g hg=>⟨.inr (.inr (.inr hg)),(hhj g hg).2⟩⟩
  . rcases h0 hx with ⟨rfl, rfl⟩ | ⟨rfl, rfl⟩ | ⟨rfl, rfl⟩ <;> rcases h0 hy with ⟨rfl, rfl⟩ | ⟨rfl, rfl⟩ | ⟨rfl, rfl⟩ <;> first | rfl | skip
    all_goals
     obtain rfl:=Option.some.inj hlx;obtain rfl:=Option.some.inj hly;exfalso
    . exact hik (s.sep k i _ _ _ _ g hk hi hlk hli hgx hgy).symm
    . exact hjk (s.sep k j _ _ _ _ g hk hj hlk hlj hgx hgy).symm
    . exact hik (s.sep i k _ _ _ _ g hi hk hli hlk hgx hgy)
    . exact hij (s.sep i j _ _ _ _ g hi hj hli hlj hgx hgy)
    . exact hjk (s.sep j k _ _ _ _ g hj hk hlj hlk hgx hgy)
    . exact hij (s.sep j i _ _ _ _ g hj hi hlj hli hgx hgy).symm
 have hv1:RepL F φ1 vs (pre++.ptr 0 0 0 :: post):=Z7S hpre hpost (fun v hr=>by
  obtain⟨loc',x,g1,gz,g2,g3,g4⟩:=hr.ptr_inv;obtain rfl:loc'=lk:=by rw [hlk] at g1; simpa using g1.symm
  rw [g4]
  exact .ptr 0 0 0 loc' x rfl gz g2 g3) hv
 refine (hs.2 C1 _ F φ1 { a with defers := [] } w vs s1 hv1).mono ?_;rintro en w' ⟨v,r,n',h',F',φ',rfl,⟨j1,j2,b1',b2',hj12,hj10,hj20,hh0,hh1,hh2,hrp,hp1',hp2',hR⟩,hvr,s'⟩;obtain⟨l0,m01,m02,m03⟩:=s'.live 0 _ hh0;obtain⟨l1,m11,m12,m13⟩:=s'.live j1 _ hh1;obtain⟨l2,m21,m22,m23⟩:=s'.live j2 _ hh2;obtain rfl:l0=lk:=by
  have:=s'.loc0 0 lk rfl;rw [m01] at this; exact Option.some.inj this
 let φ2:Locs:=fun x=>if x=n then some l1 else if x=n+1 then some l2 else φ x
 have hφ2:φ2 n=some l1:=by simp [φ2]
 have hφ21:φ2 (n+1)=some l2:=by show (if n+1=n then some l1 else if n+1=n+1 then some l2 else φ (n+1))=some l2; rw [if_neg (by omega),if_pos rfl]
 have hφ3:∀ {x:Nat},x≠n->x≠n+1->φ2 x=φ x:=fun {x} h1 h2=>by simp only [φ2]; rw [if_neg h1,if_neg h2]
 have hφ4:∀ x y,φ x=some y->φ2 x=some y:=fun x y hx=>by
  rw [hφ3 (fun e=>by rw [e,hφn] at hx; cases hx) fun e=>by rw [e,hφn1] at hx; cases hx]; exact hx
 have hkn:=hnone hk;have src:∀ {x:Nat} {bx:Bx},(((((h.del i).del j).upd k (kidB q n (n+1))).upd n b1').upd (n+1) b2') x=some bx ->
  (x=n+1/\bx=b2') \/ (x=n/\bx=b1') \/ (x=k/\bx=kidB q n (n+1)) \/ (x≠k/\x≠i/\x≠j/\h x=some bx):=by
  intro x bx hx;by_cases e1:x=n+1
  . subst e1; rw [Heap.upd_same] at hx; exact .inl ⟨rfl,(Option.some.inj hx).symm⟩
  rw [Heap.upd_ne _ _ e1] at hx;by_cases e2:x=n
  . subst e2; rw [Heap.upd_same] at hx; exact .inr (.inl ⟨rfl,(Option.some.inj hx).symm⟩)
  rw [Heap.upd_ne _ _ e2] at hx;by_cases e3:x=k
  . subst e3; rw [Heap.upd_same] at hx; exact .inr (.inr (.inl ⟨rfl,(Option.some.inj hx).symm⟩))
  rw [Heap.upd_ne _ _ e3] at hx;obtain⟨e4,hx⟩:=Heap.del_some hx;obtain⟨e5,hx⟩:=Heap.del_some hx;exact .inr (.inr (.inr ⟨e3,e5,e4,hx⟩))
 have hold:∀ {x:Nat} {bx:Bx} {lx:Loc} {g:Nat},x≠k->x≠i->x≠j->h x=some bx->φ x=some lx->lx.has g->¬ C1.G g:=by
  intro x bx lx g h1 h2 h3 hx hlx hg hG;rcases hG with hg' | hg' | hg'
  . exact h1 (s.sep x k _ _ _ _ g hx hk hlx hlk hg hg')
  . exact h2 (s.sep x i _ _ _ _ g hx hi hlx hli hg hg')
  . exact h3 (s.sep x j _ _ _ _ g hx hj hlx hlj hg hg')
 have hnew:∀ {lx:Loc} {g:Nat},(w.heap.size<=g \/ C1.G g)->C.w0.heap.size<=g \/ C.G g:=fun {lx g} h1=>h1.elim (fun h1=>.inl (Y03 s.size h1)) (hG g);refine⟨v,r,b1',b2',F',φ2,rfl,⟨hrp,hp1',hp2',hR⟩,hvr.pure hrp,?_⟩
 refine { nt := s.nt, glob := s'.glob, marks := s.marks.mono (fun g hg => by rw [s'.kept g (Array.getElem?_eq_some_iff.1 hg).1 (fun hg' => hcells g hg' _ hg rfl)]; exact hg), loc0 := fun i x hx => hφ4 i x (s.loc0 i x hx), free := fun x hx => by rw [hφ3 hx.2.1 hx.2.2]; exact s.free x hx.1, env := fun j p hp => ⟨(s.env j p hp).1, (s.env j p hp).2.mono s'.ext hφ4⟩, froz := s'.froz, ext := fun x v hx => s'.ext _ _ (s.ext x v hx),
          old:=fun x hx hg=>?_,os:=s'.os.trans s.os,tape:=s'.tape.trans s.tape,output:=s'.output.trans s.output,size:=Y03 s.size s'.size,kept:=fun g hk hg=>?_,live:=fun x bx hx=>?_,sep:=fun x y bx bY lx ly g hx hy hlx hly hgx hgy=>?_ }
 . have hx2 : x.block < w.heap.size := Nat.lt_of_lt_of_le hx s.size;rw [s'.old x hx2 fun hg'=>(hG _ hg').elim (fun h1=>absurd hx (Nat.not_lt.2 h1)) hg];exact s.old x hx hg
 . rw [s'.kept g (Nat.lt_of_lt_of_le hk s.size) fun hg' => (hG _ hg').elim (fun h1 => absurd hk (Nat.not_lt.2 h1)) hg];exact s.kept g hk hg
 . rcases src hx with ⟨rfl, rfl⟩ | ⟨rfl, rfl⟩ | ⟨rfl, rfl⟩ | ⟨h1, h2, h3, hx⟩
   . exact⟨l2,hφ21,m22.names hp2',fun g hg=>⟨hnew (lx:=l2) (m23 g hg).1,(m23 g hg).2⟩⟩
   . exact⟨l1,hφ2,m12.names hp1',fun g hg=>⟨hnew (lx:=l1) (m13 g hg).1,(m13 g hg).2⟩⟩
   . exact⟨l0,hφ4 _ _ hlk,m02.kid (by rw [m11,hφ2]) (by rw [m21,hφ21]) hq,fun g hg=>⟨(hhk g hg).1,(m03 g hg).2⟩⟩
   . obtain ⟨lx, g1, g2, g3⟩ := s.live x bx hx;have hout:∀ g,lx.has g->¬ C1.G g:=fun g hg=>hold h1 h2 h3 hx g1 hg;have hblk:∀ g,lx.has g->w'.heap[g]?=w.heap[g]?:=fun g hg=>s'.kept g (s.has_lt hx g1 hg) (hout g hg);have hne:=hnone hx;refine⟨lx,by rw [hφ3 hne.1 hne.2]; exact g1,g2.mono s'.ext hφ4 hblk,fun g hg=>⟨(g3 g hg).1,fun z hz=>?_⟩⟩;rw [s'.old z (by rw [hz]; exact s.has_lt hx g1 hg) (by rw [hz]; exact hout g hg)];exact (g3 g hg).2 z hz
 . have cls : ∀ {x : Nat} {bx : Bx} {lx : Loc} {g : Nat}, (((((h.del i).del j).upd k (kidB q n (n + 1))).upd n b1').upd (n + 1) b2') x = some bx -> φ2 x = some lx -> lx.has g ->
    (h x=some bx/\φ x=some lx/\g<w.heap.size/\¬ C1.G g) \/ ((w.heap.size<=g \/ C1.G g)/\∃ y b',h' y=some b'/\φ' y=some lx/\((x=n+1/\y=j2) \/ (x=n/\y=j1) \/ (x=k/\y=0))):=by
    intro x bx lx g hx hlx hg;rcases src hx with⟨rfl,rfl⟩|⟨rfl,rfl⟩|⟨rfl,rfl⟩|⟨h1,h2,h3,hx⟩
    . rw [hφ21] at hlx; cases hlx;exact .inr ⟨(m23 g hg).1,j2,_,hh2,m21,.inl ⟨rfl,rfl⟩⟩
    . rw [hφ2] at hlx; cases hlx;exact .inr ⟨(m13 g hg).1,j1,_,hh1,m11,.inr (.inl ⟨rfl,rfl⟩)⟩
    . rw [hφ4 _ _ hlk] at hlx; cases hlx;exact .inr ⟨(m03 g hg).1,0,_,hh0,m01,.inr (.inr ⟨rfl,rfl⟩)⟩
    . have hne := hnone hx;rw [hφ3 hne.1 hne.2] at hlx;exact .inl ⟨hx,hlx,s.has_lt hx hlx hg,hold h1 h2 h3 hx hlx hg⟩
   rcases cls hx hlx hgx with⟨a1,a2,a3,a4⟩|⟨a1,y1,c1,a2,a3,a4⟩<;>rcases cls hy hly hgy with⟨d1,d2,d3,d4⟩|⟨d1,y2,c2,d2,d3,d4⟩
   . exact s.sep x y bx bY lx ly g a1 d1 a2 d2 hgx hgy
   . rcases d1 with d1 | d1
     . omega
     . exact absurd d1 a4
   . rcases a1 with a1 | a1
     . omega
     . exact absurd a1 d4
   . have := s'.sep y1 y2 c1 c2 lx ly g a2 d2 a3 d3 hgx hgy;subst this;rcases a4 with⟨rfl,rfl⟩|⟨rfl,rfl⟩|⟨rfl,rfl⟩<;>rcases d4 with⟨rfl,e⟩|⟨rfl,e⟩|⟨rfl,e⟩<;>first|rfl|omega
theorem K2Spec.frame {f:FuncId} {pre post q:List PV} {b1 b2:Bx} {R:PV->Bx->Bx->Prop} (hs:K2Spec P f pre post q b1 b2 R) (hpre:pureL pre) (hpost:pureL post) (hq:pureL q) (hp1:pureLL b1.elems) (hp2:pureLL b2.elems) {k i j n:Nat} (hk:h k=some (kidB q i j)) (hi:h i=some b1) (hj:h j=some b2) (hij:i≠j) (hik:i≠k) (hjk:j≠k) :
 ISpec P f n (pre++.ptr k 0 0 :: post) h fun n' r h'=>∃ b1' b2',n'=n+2/\h'=((((h.del i).del j).upd k (kidB q n (n+1))).upd n b1').upd (n+1) b2'/\r.pure/\pureLL b1'.elems/\pureLL b2'.elems/\R r b1' b2':=by
 refine⟨hs.1,fun C e F φ a w vs s hv=>(hs.run hpre hpost hq hp1 hp2 (n:=n) (Y0m n) (Nat.le_succ n) hk hi hj hij hik hjk s hv).mono ?_⟩;rintro en w' ⟨v,r,b1',b2',F',φ',rfl,⟨h1,h2,h3,h4⟩,hr,s'⟩;exact⟨v,r,n+2,_,F',φ',rfl,⟨b1',b2',rfl,rfl,h1,h2,h3,h4⟩,hr,{ s' with free:=fun i hi=>s'.free i ⟨by omega,by omega,by omega⟩ }⟩
theorem Zbx {f:Operand} {args:List Operand} {g:FuncId} {caps as0 pre post q:List PV} {b1 b2:Bx} {k i j:Nat} {R:PV->Bx->Bx->Prop} {d:Option Nat} {os:List AOper} {n:Nat} {K:Nat->Env->Heap->Prop} (hs:K2Spec P g pre post q b1 b2 R) (hf:ev e f=some (.fn g caps)) (ha:evs e args=some as0) (hr:as0++caps=pre++.ptr k 0 0 :: post) (hk:h k=some (kidB q i j)) (hi:h i=some b1) (hj:h j=some b2) (hij:i≠j) (hik:i≠k) (hjk:j≠k) (hpre:pureL pre) (hpost:pureL post) (hq:pureL q) (hp1:pureLL b1.elems) (hp2:pureLL b2.elems)
 (hK:∀ r b1' b2',r.pure->pureLL b1'.elems->pureLL b2'.elems->R r b1' b2'->opsK P os (n+2) (updO e d r) (((((h.del i).del j).upd k (kidB q n (n+1))).upd n b1').upd (n+1) b2') K):opsK P (⟨d,.call f args,none⟩ :: os) n e h K:=by
 refine Z1D hf ha (R:=fun n' r h'=>∃ b1' b2',n'=n+2/\h'=((((h.del i).del j).upd k (kidB q n (n+1))).upd n b1').upd (n+1) b2'/\r.pure/\pureLL b1'.elems/\pureLL b2'.elems/\R r b1' b2') (by rw [hr]; exact hs.frame hpre hpost hq hp1 hp2 hk hi hj hij hik hjk) ?_;rintro n' r h' ⟨b1',b2',rfl,rfl,h1,h2,h3,h4⟩;exact hK r b1' b2' h1 h2 h3 h4
theorem ZcT {f nt:Nat} {ac:ACode} {rs:List ARes} (hf:FnOk P f nt ac rs) {pre post q:List PV} {b1 b2:Bx} {R:PV->Bx->Bx->Prop} (hn:(pre++.ptr 0 0 0 :: post).length<=nt)
 (hk:∀ C:Ctx,C.dom 3->aw P C ac (retI rs fun n' r h'=>∃ j1 j2 b1' b2',j1≠j2/\j1≠0/\j2≠0/\h' 0=some (kidB q j1 j2)/\h' j1=some b1'/\h' j2=some b2'/\r.pure/\pureLL b1'.elems/\pureLL b2'.elems/\R r b1' b2') 3 (argEnv (pre++.ptr 0 0 0 :: post)) (heapL [(0,kidB q 1 2),(1,b1),(2,b2)])):K2Spec P f pre post q b1 b2 R :=
 Z1K hf hn hk
end
end
section
open Go.RowKit
attribute [local irreducible] aw opsK dK
def hwC (e:KE):List PV := [.val (.int .i64 e.2.1),.val (.int .i64 (e.2.2:Int))]
theorem ZhJ (e:KE):pureL (hwC e):=⟨Yt,Yt,Yt⟩
theorem Z19 (l:List KE):pureLL (l.map hwC):=Z9 ZhJ l
def AddR (ks:List KE) (e:KE) (L:Int) (ks':List KE) (v:PV):Prop:=(covL (kcs ks) e.1=true/\ks'=ks/\v=.val (.int .i64 0)) \/ (covL (kcs ks) e.1=false/\ks'=ks ++ [e]/\v=.val (.int .i64 (if L<((ks.length+1:Nat):Int) then 3 else 0)))
theorem ZcU (ks:List KE) (h64:∀ c∈kcs ks,Ok64 c) (hl:ks.length<=1000) (e:KE) (he:Ok64 e.1) (L:Int):K2Spec Tryz.prog 43 [] [cuP e.1,.agg (hwC e)] [.val (.int .i64 L)] ⟨2,(kcs ks).map cuC⟩ ⟨2,ks.map hwC⟩ fun v b1 b2=>∃ ks',b1=⟨2,(kcs ks').map cuC⟩/\b2=⟨2,ks'.map hwC⟩/\AddR ks e L ks' v:=by
 have hkl:(kcs ks).length=ks.length:=by simp [kcs]
 have hcs:=Ze5 ((kcs ks).length+1) (kcs ks) (Nat.lt_succ_self _) (by omega) h64 e.1 false he;refine ZcT ok43 (Nat.le_of_ble_eq_true rfl) fun C hC=>?_;refine Zs ?_;refine Zc ?_;refine Z5 rfl rfl rfl ?_;refine Z5 rfl rfl rfl ?_
 iterate 4 (first|refine st ?_|(apply B<;>intro hb<;>try cases hb))
 refine Zc3 [] 1 (by decide) ?_;refine gd 12 ⟨?_⟩;refine Zkj hcs rfl rfl (j:=1) rfl rfl rfl (Z2 _) ⟨Zu _,Z2 _,Yt⟩ ?_;cases hcov:covL (kcs ks) e.1
 case true =>
  refine go ?_;exact⟨_,_,rfl,.inl rfl,1,2,_,_,by decide,by decide,by decide,rfl,rfl,rfl,Yt,Z2 _,Z19 _,ks,rfl,rfl,.inl ⟨hcov,rfl,rfl⟩⟩
 repeat' (first|refine Z2l [] [(1,256)] [4194303,4194303,4194303,4194303,4194303,4194303,4194303,4194303,4194047,4194303,4194303,4194303,4194303,4194303,4194303,4194303,4194303,4194303,4194303,4194303,4194303,4194303] (by kernel_rfl) ?_|refine Z8d 21 ?_|(first|refine st ?_|(apply B<;>intro hb<;>try cases hb)))
 refine At.mk ?_
 refine Qr (Zx (k:=1) (m := [cuC e.1]) (fl:=true) rfl rfl rfl (fun q hq=>by rw [Y0g] at hq; subst hq; rfl) rfl (by
  show (((kcs ks).map cuC).length+1)*48<=_
  rw [Y0f];omega)) ?_
 refine gd 28 ⟨?_⟩
 refine Qr (Zx (k:=2) (m := [hwC e]) (fl:=true) rfl rfl rfl (fun q hq=>by rw [Y0g] at hq; subst hq; rfl) rfl (by
  show ((ks.map hwC).length+1)*16<=_
  rw [Y0f];omega)) ?_
 have hp1:pureLL ((kcs ks).map cuC ++ [cuC e.1]):=by rw [<- List.map_singleton,<- Y0r]; exact Z2 _
 have hp2:pureLL (ks.map hwC ++ [hwC e]):=by rw [<- List.map_singleton,<- Y0r]; exact Z19 _
 have e1:(kcs ks).map cuC ++ [cuC e.1]=(kcs (ks ++ [e])).map cuC:=by rw [Z8L,Y0r]; rfl
 have e2:ks.map hwC ++ [hwC e]=(ks ++ [e]).map hwC:=by rw [Y0r]; rfl
 have hlen:(((kcs ks).map cuC ++ [cuC e.1]).length:Int)=((ks.length+1:Nat):Int):=by simp [hkl]
 rw [e1] at hp1 hlen ⊢;rw [e2] at hp2 ⊢;refine gd 42 ⟨?_⟩;by_cases hL:L<((ks.length+1:Nat):Int)
 . refine Qr (Qy rfl (by rw [hlen]; exact hL)) ?_;refine go ?_;exact⟨_,_,rfl,.inl rfl,17,24,_,_,by decide,by decide,by decide,rfl,rfl,rfl,Yt,hp1,hp2,ks ++ [e],rfl,rfl,.inr ⟨hcov,rfl,by rw [if_pos hL]; rfl⟩⟩
 . refine Qr (Qz rfl (by rw [hlen]; exact hL)) ?_;refine gd 49 ⟨?_⟩;refine Z2R rfl ?_;refine Qr (Qz rfl (by rw [hlen];omega)) ?_;refine go ?_;exact⟨_,_,rfl,.inl rfl,17,24,_,_,by decide,by decide,by decide,rfl,rfl,rfl,Yt,hp1,hp2,ks ++ [e],rfl,rfl,.inr ⟨hcov,rfl,by rw [if_neg hL]; rfl⟩⟩
theorem PathK.len {t:PB} {ks:List KE} (hk:KInv t ks) {i:Nat} {p:List Nat} (hp:PathK ks i p):p.length<=i:=by
 induction hp with
 | stop _ _=>exact Y0l _
 | step he hr _ ih =>
   rcases hk.how _ _ he with h4|⟨r',to',x,e',h4,h5,h6,h7,h8⟩
   . rw [hr] at h4; simp only at h4; omega
   . rw [hr] at h4;obtain⟨h41,h42⟩:=Prod.mk.inj h4;subst h42;rw [Y04]; omega
def kpC (ks:List KE) (L:Int):List PV := [.vec ((kcs ks).map cuC) false,.vec (ks.map hwC) false,.val (.int .i64 L)]
theorem Z8U (ks:List KE) (L:Int):pureL (kpC ks L):=⟨Z2 _,Z19 _,Yt,Yt⟩
theorem ZfY {t:PB} (hn:t.n<=5) {ks:List KE} (hk:KInv t ks) (L:Int) {i:Nat} {p:List Nat} (hp:PathK ks i p):Spec Tryz.prog 44 [.cp (kpC ks L),Yv i] (· = .vec (inL p) false):=by
 have hkp:=Z8U ks L;have hkl:=hk.len;have h32:2 ^ t.n<=32:=Nat.pow_le_pow_right (n:=2) (by decide) hn;have hpl:p.length<=i:=hp.len hk;have hil:i<ks.length:=by cases hp<;>exact (List.getElem?_eq_some_iff.1 (by assumption)).1
 refine Yp ok44 fun C hC=>?_;refine go ?_;refine Z20 (Z7j (k:=5) rfl 1 (by decide)) ?_;refine ZF hC (fun (z:Nat×List Nat×List Nat)=>PathK ks z.1 z.2.2/\p=z.2.1++z.2.2) (fun z=>z.2.2.length) 1 (fun z => [(0,.cp (kpC ks L)),(1,Yv z.1),(5,.own 0)]) (fun z => [(0,⟨1,inL z.2.1⟩)]) (Y0l _) (i,[],p) ⟨hp,rfl⟩ (fun i=>i) (fun _ _=>rfl) Zt
  ⟨Qp hkp,Qp Yt,⟨_,rfl,.own 0 (by decide)⟩,Yt⟩ ⟨Qs Yt,Yt⟩ ?_
 rintro⟨j,out,q⟩ ⟨hq,hpq⟩;dsimp only at hq hpq ⊢;have hol:out.length<=32:=by rw [hpq,Y0e] at hpl; omega
 cases hq with
 | stop he hr =>
   rename_i e;obtain⟨hjl,hje⟩:=List.getElem?_eq_some_iff.1 he;refine gd 11 ⟨?_⟩;refine Qo (Zm (xs:=ks) (g:=hwC) rfl rfl j rfl hjl rfl) ?_;rw [hje];refine gd 14 ⟨?_⟩;refine Qo (Qz rfl (by omega)) ?_
   repeat' (first|refine Zf (Zp (k:=5) rfl rfl (Z16 _)) ?_|(first|refine st ?_|(apply B<;>intro hb<;>try cases hb)))
   rw [Y0p] at hpq;exact Z7 rfl (Z16 _) (by rw [hpq])
 | step he hr hq =>
   rename_i r to e q;obtain⟨hjl,hje⟩:=List.getElem?_eq_some_iff.1 he;have h1:hwC e = [.val (.int .i64 (r:Int)),.val (.int .i64 (to:Int))]:=by unfold hwC; rw [hr]
   refine gd 11 ⟨?_⟩;refine Qo (Zm (xs:=ks) (g:=hwC) rfl rfl j rfl hjl rfl) ?_;rw [hje,h1];refine gd 14 ⟨?_⟩;refine Qo (Qy rfl (by omega)) ?_;refine gd 21 ⟨?_⟩;refine Qo (Zm (xs:=ks) (g:=hwC) rfl rfl j rfl hjl rfl) ?_;rw [hje,h1];refine gd 25 ⟨?_⟩
   refine ZD (Zx (k:=0) (m := [inC1 r]) (fl:=true) rfl rfl rfl (fun q hq=>by rw [Y0g] at hq; subst hq; rfl) rfl (by
    show ((inL out).length+1)*8<=_
    rw [Z6U];omega)) rfl rfl ?_
   refine gd 31 ⟨?_⟩;refine Qo (Zm (xs:=ks) (g:=hwC) rfl rfl j rfl hjl rfl) ?_;rw [hje,h1];refine go ?_
   refine⟨(to,out ++ [r],q),mv 0 1,⟨hq,by rw [hpq,List.append_assoc]; rfl⟩,by show q.length<q.length+1; omega,fun i hi=>absurd hi (Nat.not_lt_zero i),Zy rfl,
    ⟨Qp hkp,Qp Yt,⟨_,rfl,.own 0 (by decide)⟩,Yt⟩,⟨⟨by decide,_,rfl,?_⟩,Yt⟩⟩
   show RenB _ _ ⟨1,inL out ++ [inC1 r]⟩ ⟨1,inL (out ++ [r])⟩;rw [Zhw];exact .same _ (Z16 _)
theorem ZfZ {ks:List KE} {i:Nat} {e:KE} (he:ks[i]?=some e):((kcs ks).map cuC).getD i []=cuC e.1/\i<((kcs ks).map cuC).length:=by
 obtain⟨h1,rfl⟩:=List.getElem?_eq_some_iff.1 he;refine⟨?_,by simp [kcs,h1]⟩;simp [kcs,Y0b,h1]
def ExpR (t:PB) (ks:List KE) (e:KE) (L:Int) (ks':List KE) (v:PV):Prop:=ks <+: ks'/\KInv t ks'/\((v=.val (.int .i64 0)/\ExpA t e.1 ks') \/ (v=.val (.int .i64 3)/\L<(ks'.length:Int)))
def CovAll (l:List Cu) (ks:List KE):Prop:=∀ c∈l,∀ S,hoC c S=true->soC (kcs ks) S=true
theorem AddR.keep {t:PB} {ks ks':List KE} {e:KE} {L:Int} {v:PV} (ha:AddR ks e L ks' v) (hk:KInv t ks) (hm:InM 62 e.1/\InM (mkN t.n) e.1/\emC e.1=false)
 (hh : (e.2.1 = -1 /\ ∀ S, InS t S -> hoC e.1 S = true -> goodB t S = true /\ reachB t S = true) \/
   ∃ (r to:Nat) (x:RU) (e':KE),e.2=((r:Int),to)/\t.rs[r]?=some x/\ks[to]?=some e'/\∀ S,InS t S->hoC e.1 S=true->goodB t S=true/\stepR t x S=true/\hoC e'.1 (nextR x S)=true) :
 ks <+: ks'/\KInv t ks'/\(∀ S,hoC e.1 S=true->soC (kcs ks') S=true)/\(v=.val (.int .i64 0) \/ (v=.val (.int .i64 3)/\L<(ks'.length:Int))):=by
 rcases ha with⟨h1,rfl,rfl⟩|⟨h1,rfl,rfl⟩
 . exact⟨List.prefix_refl _,hk,fun S hS=>ZjQ hk h1 hS,.inl rfl⟩
 . refine ⟨List.prefix_append _ _, hk.add hm h1 hh, fun S hS => by rw [Z8L, Z63, hS, Bool.or_true], ?_⟩;by_cases hL:L<((ks.length+1:Nat):Int)
   . exact .inr ⟨by rw [if_pos hL],by rw [Y0e]; exact hL⟩
   . exact .inl (by rw [if_neg hL])
theorem low3 {a b i:Nat} (hi:i<3):mv 3 a (mv 4 b i)=i:=by
 rw [Z4Q (m:=3) (by decide) i hi,Z4Q (m:=3) (Y0m 3) i hi]
theorem Zby {t:PB} (h:PbOk t) (hn:t.n<=5) (S:List Nat) {ks:List KE} (hk:KInv t ks) (i:Nat) (e:KE) (he:ks[i]?=some e) (L:Int):K2Spec Tryz.prog 45 [.cp (srC t S)] [Yv i] [.val (.int .i64 L)] ⟨2,(kcs ks).map cuC⟩ ⟨2,ks.map hwC⟩ fun v b1 b2=>∃ ks',b1=⟨2,(kcs ks').map cuC⟩/\b2=⟨2,ks'.map hwC⟩/\ExpR t ks e L ks' v:=by
 have hsr:=Z5c t S;have hrb:=h.rl;have hrl:(t.rs.map ruP).length=t.rs.length:=by simp
 have h32:2 ^ t.n<=32:=Nat.pow_le_pow_right (n:=2) (by decide) hn;refine ZcT ok45 (Nat.le_of_ble_eq_true rfl) fun C hC=>?_;refine go ?_;refine ZF hC (fun (z:Nat×List KE)=>z.1<=t.rs.length/\ks <+: z.2/\KInv t z.2/\∀ j x,j<z.1->t.rs[j]?=some x->Exp1 t e.1 x z.2) (fun z=>t.rs.length-z.1) 5 (fun z => [(0,.cp (srC t S)),(1,.ptr 0 0 0),(2,Yv i),(18,.val (.int .i64 (t.rs.length:Int))),(19,Yv z.1)])
  (fun z => [(0,⟨3,[[.own 3,.own 4,.val (.int .i64 L)]]⟩),(3,⟨2,(kcs z.2).map cuC⟩),(4,⟨2,z.2.map hwC⟩)]) (by decide) (0,ks) ⟨Y0l _,List.prefix_refl _,hk,fun j x hj=>absurd hj (Nat.not_lt_zero j)⟩ (fun i=>mv 3 1 (mv 4 2 i)) (fun i hi=>low3 hi) (Zy rfl)
  ⟨Qp hsr,Qt 0 0 0,Qp Yt,⟨_,by rw [<- hrl]; rfl,.pure _ Yt⟩,Qp Yt,Yt⟩
  ⟨⟨by decide,_,rfl,RenB.single ⟨.own (ρ:=fun i=>mv 3 1 (mv 4 2 i)) 3 (by decide),.own (ρ:=fun i=>mv 3 1 (mv 4 2 i)) 4 (by decide),.pure _ Yt,Yt⟩ rfl⟩,Qs (Z2 _),Qs (Z19 _),Yt⟩ ?_
 rintro⟨r,k1⟩ ⟨hr,hpre,hk1,hex⟩;dsimp only at hr hpre hk1 hex ⊢;have hinc:IntKind.i64.wrap ((r:Int)+1)=((r+1:Nat):Int):=Y0v _ ⟨by omega,by omega⟩;refine gd 20 ⟨?_⟩;by_cases hrt:r<t.rs.length
 case neg =>
  refine Qo (Qz rfl (by omega)) ?_;refine go ?_;refine⟨_,_,rfl,.inl rfl,3,4,_,_,by decide,by decide,by decide,rfl,rfl,rfl,Yt,Z2 _,Z19 _,k1,rfl,rfl,hpre,hk1,.inl ⟨rfl,fun x hx=>?_⟩⟩;obtain⟨j,hj,rfl⟩:=List.mem_iff_getElem.1 hx;exact hex j _ (by omega) (Y0c hj)
 refine Qo (Qy rfl (Int.ofNat_lt.2 hrt)) ?_;have he1:=Z8O hpre he;obtain⟨g1,g2⟩:=ZfZ he1;have hem:=hk1.mem e (List.mem_of_getElem? he1);have hro:=h.rs _ (Y0j hrt);have hxr:=Y0c hrt;refine gd 29 ⟨?_⟩;refine Qo (ZE (k:=.i64) rfl rfl rfl i rfl g2 rfl) ?_;refine gd 30 ⟨?_⟩;refine Qo (Z1S (p:=cuP e.1) rfl rfl g2 (by show cutAt true 2 0 (((kcs k1).map cuC).getD i [])=_; rw [g1]; rfl)) ?_;refine gd 32 ⟨?_⟩;refine Qe (Z9J h S e.1 hem.1 r hrt) ⟨hsr,Zu _,Yt,Yt⟩ ?_;generalize t.rs[r]=x at hro hxr ⊢;have hbi:=Zks h hro hem.1;have hbn:=ZkM h hro hem.2.1;have hbs:=fun S (hS:InS t S)=>Zkr h hro hem.1 hS;generalize hl0:bfL t x e.1=l at hbi hbn hbs ⊢;obtain⟨hbi,hbl⟩:=hbi;have hll:(l.map cuC).length=l.length:=by simp
 refine go ?_;refine ZF hC (fun (z:Nat×List KE)=>z.1<=l.length/\ks <+: z.2/\k1 <+: z.2/\KInv t z.2/\CovAll (l.take z.1) z.2) (fun z=>l.length-z.1) 5 (fun z => [(0,.cp (srC t S)),(1,.ptr 0 0 0),(2,Yv i),(7,.val (.int .i64 (r:Int))),(18,.val (.int .i64 (t.rs.length:Int))),(19,.val (.int .i64 (r:Int))),(38,.vec (l.map cuC) false),(39,.val (.int .i64 (l.length:Int))),(40,Yv z.1)])
  (fun z => [(0,⟨3,[[.own 3,.own 4,.val (.int .i64 L)]]⟩),(3,⟨2,(kcs z.2).map cuC⟩),(4,⟨2,z.2.map hwC⟩)]) (by decide) (0,k1) ⟨Y0l _,hpre,List.prefix_refl _,hk1,fun c hc=>(by cases hc)⟩ (fun i=>i) (fun _ _=>rfl) Zt
  ⟨Qp hsr,Qt 0 0 0,Qp Yt,Qp Yt,Qp Yt,Qp Yt,Qp (Z2 _),⟨_,by rw [<- hll]; rfl,.pure _ Yt⟩,Qp Yt,Yt⟩
  ⟨⟨by decide,_,rfl,RenB.single ⟨.own (ρ:=fun i=>i) 3 (by decide),.own (ρ:=fun i=>i) 4 (by decide),.pure _ Yt,Yt⟩ rfl⟩,Qs (Z2 _),Qs (Z19 _),Yt⟩ ?_
 rintro⟨j,k2⟩ ⟨hj,hpre2,hpre3,hk2,hcov⟩;dsimp only at hj hpre2 hpre3 hk2 hcov ⊢;have hjnc:IntKind.i64.wrap ((j:Int)+1)=((j+1:Nat):Int):=Y0v _ ⟨by omega,by omega⟩;have hkl2:=hk2.len;refine gd 41 ⟨?_⟩;by_cases hjl:j<l.length
 case neg =>
  refine Qo (Qz rfl (by omega)) ?_;refine go ?_;have hjl:j=l.length:=by omega
  rw [hjl,Y0q] at hcov
  refine⟨(r+1,k2),fun i=>i,⟨hrt,hpre2,hk2,fun j y hjr hy=>?_⟩,by show t.rs.length-(r+1)<t.rs.length-r; omega,fun _ _=>rfl,Zt,
   ⟨Qp hsr,Qt 0 0 0,Qp Yt,Qp Yt,⟨_,by show some _=some _; rw [hinc],.pure _ Yt⟩,Yt⟩,
   ⟨⟨by decide,_,rfl,RenB.single ⟨.own (ρ:=fun i=>i) 3 (by decide),.own (ρ:=fun i=>i) 4 (by decide),.pure _ Yt,Yt⟩ rfl⟩,Qs (Z2 _),Qs (Z19 _),Yt⟩⟩
  by_cases hjr2:j<r
  . exact (hex j y hjr2 hy).pre hpre3
  . obtain rfl : j = r := by omega
    rw [hxr] at hy; cases hy;intro S hS hg hs hho;have h1:=hbs S hS;rw [hg,hs,hho] at h1;obtain⟨c,hc,h2⟩:=Y01.1 (show soC l S=true from h1);exact hcov c hc S h2
 refine Qo (Qy rfl (Int.ofNat_lt.2 hjl)) ?_;have htk:=Z14 hjl;have hcm:=Y0j hjl;refine gd 42 ⟨?_⟩;refine Qo (Zm (xs:=l) (g:=cuC) rfl rfl j rfl hjl rfl) ?_;generalize l[j]=c at htk hcm ⊢;obtain⟨hc1,hc2⟩:=hbi c hcm;have hc3:=hbn c hcm;have hadd:=ZcU k2 hk2.c64 (by omega) (c,((r:Int),i)) (hc1.lt (by decide)) L;refine gd 49 ⟨?_⟩;refine Zbx hadd rfl rfl rfl rfl rfl rfl (by decide) (by decide) (by decide) Yt ⟨Zu _,⟨Yt,Yt,Yt⟩,Yt⟩ ⟨Yt,Yt⟩ (Z2 _) (Z19 _) ?_;rintro v b1' b2' - - - ⟨k3,rfl,rfl,ha⟩;have hst:∀ S,InS t S->hoC c S=true->goodB t S=true/\stepR t x S=true/\hoC e.1 (nextR x S)=true:=fun S hS hc=>by
  have h1:=hbs S hS;have h2:soC l S=true:=Y01.2 ⟨c,hcm,hc⟩;rw [h2] at h1;have h1:=h1.symm;rw [Y0k,Y0k] at h1;exact h1
 obtain⟨p1,p2,p3,p4⟩:=ha.keep (t:=t) hk2 ⟨hc1,hc3,hc2⟩ (.inr ⟨r,i,x,e,rfl,hxr,Z8O hpre2 he,hst⟩);rcases p4 with rfl|⟨rfl,p4⟩
 . refine go ?_
   refine⟨(j+1,k3),fun i=>mv 3 6 (mv 4 7 i),⟨hjl,hpre2.trans p1,hpre3.trans p1,p2,?_⟩,by show l.length-(j+1)<l.length-j; omega,fun i hi=>low3 hi,Zy rfl,
    ⟨Qp hsr,Qt 0 0 0,Qp Yt,Qp Yt,Qp Yt,Qp Yt,Qp (Z2 _),Qp Yt,⟨_,by show some _=some _; rw [hjnc],.pure _ Yt⟩,Yt⟩,
    ⟨⟨by decide,_,rfl,RenB.single ⟨.own (ρ:=fun i=>mv 3 6 (mv 4 7 i)) 3 (by decide),.own (ρ:=fun i=>mv 3 6 (mv 4 7 i)) 4 (by decide),.pure _ Yt,Yt⟩ rfl⟩,Qs (Z2 _),Qs (Z19 _),Yt⟩⟩
   rw [htk];intro c' hc' S hS;rcases Y0h.1 hc' with hc' | hc'
   . exact Z8N p1 (hcov c' hc' S hS)
   . rw [Y0g] at hc'; subst hc'; exact p3 S hS
 . refine go ?_;exact⟨_,_,rfl,.inl rfl,6,7,_,_,by decide,by decide,by decide,rfl,rfl,rfl,Yt,Z2 _,Z19 _,k3,rfl,rfl,hpre2.trans p1,p2,.inr ⟨rfl,p4⟩⟩
inductive SrRes (t:PB) (L:Int):PV->Prop
 | yes (p:List Nat) (hp:PlanOk t p) (hl:p.length<=32):SrRes t L (.tup [.vec (inL p) false,.vec [] true,.val (.bool true),.val (.int .i64 0)])
 | no (ks:List KE) (hk:NotFound t ks):SrRes t L (.tup [.vec [] true,.vec ((kcs ks).map cuC) false,.val (.bool false),.val (.int .i64 0)])
 | lim (hl:L<((2 ^ t.n:Nat):Int)):SrRes t L (.tup [.vec [] true,.vec [] true,.val (.bool false),.val (.int .i64 3)])
theorem Zbz {t:PB} (h:PbOk t) (hn:t.n<=5) (S:List Nat) (L:Int) (hL:1<=L):Spec Tryz.prog 14 [.agg (pbP t S),.val (.int .i64 L)] (SrRes t L):=by
 have hpp:=ZL t S;have hsr:=Z5c t S;have h32:2 ^ t.n<=32:=Nat.pow_le_pow_right (n:=2) (by decide) hn;have hti:=ZjM h;have htn:=Zkt t;have hts:=fun S (hS:InS t S)=>ZjN h hS;have hte:∀ c∈tgtL t,emC c=false:=fun c hc=>(Z2L hc).2;have htg:=Z9H h S;refine Yp ok14 fun C hC=>?_;refine Zs ?_;refine Zc ?_;refine Z5 rfl rfl rfl ?_;refine gd 18 ⟨?_⟩;refine Qe (Z8J h S) ⟨hpp,Yt⟩ ?_;refine gd 23 ⟨?_⟩;refine Qo (Qz rfl (by omega)) ?_;refine gd 26 ⟨?_⟩;refine Qe (Z9I h S) ⟨hpp,Yt⟩ ?_;refine gd 34 ⟨?_⟩;refine Qe htg ⟨hpp,Yt⟩ ?_;generalize tgtL t=l at hti htn hts hte ⊢;have hnl:(l.map cuC).length=l.length:=by simp
 refine gd 43 ⟨?_⟩;refine Zf (ZU (id:=0) (i0:=0) (j0:=0) rfl (Nat.le_of_ble_eq_true rfl) (Nat.le_of_ble_eq_true rfl) rfl 2 (by decide) (by decide)) ?_;refine Zf (ZU (id:=0) (i0:=0) (j0:=1) rfl (Nat.le_of_ble_eq_true rfl) (Nat.le_of_ble_eq_true rfl) rfl 2 (by decide) (by decide)) ?_;refine go ?_;refine ZF hC (fun (z:Nat×List KE)=>z.1<=l.length/\KInv t z.2/\CovAll (l.take z.1) z.2) (fun z=>l.length-z.1) 3 (fun z => [(2,.cp (pbP t S)),(9,.cp (srC t S)),(11,.ptr 0 0 0),(43,.vec (l.map cuC) false),(44,.val (.int .i64 (l.length:Int))),(45,Yv z.1)])
  (fun z => [(0,⟨3,[[.own 1,.own 2,.val (.int .i64 L)]]⟩),(1,⟨2,(kcs z.2).map cuC⟩),(2,⟨2,z.2.map hwC⟩)]) (Y0l _) (0,[]) ⟨Y0l _,KInv.nil t,fun c hc=>(by cases hc)⟩ (fun i=>i) (fun _ _=>rfl) Zt
  ⟨Qp hpp,Qp hsr,Qt 0 0 0,Qp (Z2 _),⟨_,by rw [<- hnl]; rfl,.pure _ Yt⟩,Qp Yt,Yt⟩
  ⟨⟨by decide,_,rfl,RenB.single ⟨.own (ρ:=fun i=>i) 1 (by decide),.own (ρ:=fun i=>i) 2 (by decide),.pure _ Yt,Yt⟩ rfl⟩,Qs Yt,Qs Yt,Yt⟩ ?_
 rintro⟨j,k1⟩ ⟨hj,hk1,hcov⟩;dsimp only at hj hk1 hcov ⊢;have hjnc:IntKind.i64.wrap ((j:Int)+1)=((j+1:Nat):Int):=Y0v _ ⟨by omega,by omega⟩;have hkl:=hk1.len;refine gd 46 ⟨?_⟩;by_cases hjl:j<l.length
 . refine Qo (Qy rfl (Int.ofNat_lt.2 hjl)) ?_;have htk:=Z14 hjl;have hcm:=Y0j hjl;refine gd 47 ⟨?_⟩;refine Qo (Zm (xs:=l) (g:=cuC) rfl rfl j rfl hjl rfl) ?_;generalize l[j]=c at htk hcm ⊢;have hc1:=hti.1 c hcm;have hadd:=ZcU k1 hk1.c64 (by omega) (c,((-1:Int),0)) (hc1.lt (by decide)) L;refine gd 52 ⟨?_⟩;refine Zbx hadd rfl rfl rfl rfl rfl rfl (by decide) (by decide) (by decide) Yt ⟨Zu _,⟨Yt,Yt,Yt⟩,Yt⟩ ⟨Yt,Yt⟩ (Z2 _) (Z19 _) ?_;rintro v b1' b2' - - - ⟨k2,rfl,rfl,ha⟩;have hst:∀ S,InS t S->hoC c S=true->goodB t S=true/\reachB t S=true:=fun S hS hc=>by
    have h1:=hts S hS;rw [show soC l S=true from Y01.2 ⟨c,hcm,hc⟩] at h1;have h1:=h1.symm;rw [Y0k] at h1;exact h1
   obtain⟨p1,p2,p3,p4⟩:=ha.keep (t:=t) hk1 ⟨hc1,htn c hcm,hte c hcm⟩ (.inl ⟨rfl,hst⟩);rcases p4 with rfl|⟨rfl,p4⟩
   . refine go ?_
     refine⟨(j+1,k2),fun i=>mv 1 4 (mv 2 5 i),⟨hjl,p2,?_⟩,by show l.length-(j+1)<l.length-j; omega,fun i hi=>absurd hi (Nat.not_lt_zero i),Zy rfl,
      ⟨Qp hpp,Qp hsr,Qt 0 0 0,Qp (Z2 _),Qp Yt,⟨_,by show some _=some _; rw [hjnc],.pure _ Yt⟩,Yt⟩,
      ⟨⟨by decide,_,rfl,RenB.single ⟨.own (ρ:=fun i=>mv 1 4 (mv 2 5 i)) 1 (by decide),.own (ρ:=fun i=>mv 1 4 (mv 2 5 i)) 2 (by decide),.pure _ Yt,Yt⟩ rfl⟩,Qs (Z2 _),Qs (Z19 _),Yt⟩⟩
     rw [htk];intro c' hc' S hS;rcases Y0h.1 hc' with hc' | hc'
     . exact Z8N p1 (hcov c' hc' S hS)
     . rw [Y0g] at hc'; subst hc'; exact p3 S hS
   . refine go ?_;have:=p2.len;exact Z7 rfl ⟨Yt,Yt,Yt,Yt,Yt⟩ (.lim (by omega))
 have hjl:j=l.length:=by omega
 rw [hjl,Y0q] at hcov;have htin:TgtIn t k1:=fun S hS hg hr=>by
  have h1:=hts S hS;rw [hg,hr] at h1;obtain⟨c,hc,h2⟩:=Y01.1 (show soC l S=true from h1);exact hcov c hc S h2
 refine Qo (Qz rfl (by omega)) ?_;clear hcov hts;refine go ?_;refine ZF hC (fun (z:Nat×List KE)=>z.1<=z.2.length/\KInv t z.2/\TgtIn t z.2/\∀ i e,i<z.1->z.2[i]?=some e->ExpA t e.1 z.2/\hoC e.1 t.st=false) (fun z=>2 ^ t.n-z.1) 3 (fun z => [(2,.cp (pbP t S)),(9,.cp (srC t S)),(11,.ptr 0 0 0),(15,Yv z.1)])
  (fun z => [(0,⟨3,[[.own 1,.own 2,.val (.int .i64 L)]]⟩),(1,⟨2,(kcs z.2).map cuC⟩),(2,⟨2,z.2.map hwC⟩)]) (Y0l _) (0,k1) ⟨Y0l _,hk1,htin,fun i e hi=>absurd hi (Nat.not_lt_zero i)⟩ (fun i=>i) (fun _ _=>rfl) Zt
  ⟨Qp hpp,Qp hsr,Qt 0 0 0,Qp Yt,Yt⟩
  ⟨⟨by decide,_,rfl,RenB.single ⟨.own (ρ:=fun i=>i) 1 (by decide),.own (ρ:=fun i=>i) 2 (by decide),.pure _ Yt,Yt⟩ rfl⟩,Qs (Z2 _),Qs (Z19 _),Yt⟩ ?_
 clear hk1 htin hkl hjnc;rintro⟨i,ks⟩ ⟨hi,hk,htin,hex⟩;dsimp only at hi hk htin hex ⊢;have hkl:=hk.len;have hinc:IntKind.i64.wrap ((i:Int)+1)=((i+1:Nat):Int):=Y0v _ ⟨by omega,by omega⟩;have hcl:((kcs ks).map cuC).length=ks.length:=by simp [kcs]
 refine gd 63 ⟨?_⟩;by_cases hil:i<ks.length
 case neg =>
  refine Zf (ZA (ob:=0) (id:=1) (i0:=0) (j0:=0) rfl rfl (by decide) (Z2 _) (Nat.le_of_ble_eq_true rfl) (Nat.le_of_ble_eq_true rfl) rfl) ?_;refine Qo (Qz rfl (by rw [hcl];omega)) ?_;refine go ?_;refine Z7 rfl ⟨Yt,Z2 _,Yt,Yt,Yt⟩ (.no ks ⟨hk,htin,fun e he=>?_,?_⟩)
  . obtain ⟨m, hm, rfl⟩ := List.mem_iff_getElem.1 he;exact (hex m _ (by omega) (Y0c hm)).1
  . refine Bool.eq_false_iff.2 fun hso => ?_;obtain⟨c,hc,hho⟩:=Y01.1 hso;obtain⟨e,he,rfl⟩:=Y0i.1 hc;obtain⟨m,hm,rfl⟩:=List.mem_iff_getElem.1 he;rw [(hex m _ (by omega) (Y0c hm)).2] at hho;cases hho
 refine Qo (Qy rfl (by rw [hcl];omega)) ?_;obtain⟨e,he⟩:∃ e,ks[i]?=some e:=⟨_,Y0c hil⟩
 obtain⟨g1,g2⟩:=ZfZ he;have hem:=hk.mem e (List.mem_of_getElem? he);have hst64:=InS.lt h.n.2 (show InS t t.st from h.st);refine gd 71 ⟨?_⟩;refine Qr (ZE (k:=.i64) rfl rfl rfl i rfl g2 rfl) ?_;refine Qr (Z1S (p:=cuP e.1) rfl rfl g2 (by show cutAt true 2 0 (((kcs ks).map cuC).getD i [])=_; rw [g1]; rfl)) ?_;refine gd 75 ⟨?_⟩;refine Qd (Z3j e.1 t.st (hem.1.lt (by decide)) hst64) ⟨Zu _,Z1 _,Yt⟩ ?_;cases hho:hoC e.1 t.st
 case true =>
  obtain⟨p,hp⟩:=hk.path (i+1) i (Nat.lt_succ_self _) hil;have hpl:=hp.len hk;have hpo:=hk.plan h he hho hp;refine gd 76 ⟨?_⟩;refine Zf (ZA (ob:=0) (id:=1) (i0:=0) (j0:=0) rfl rfl (by decide) (Z2 _) (Nat.le_of_ble_eq_true rfl) (Nat.le_of_ble_eq_true rfl) rfl) ?_;refine Zf (ZA (ob:=0) (id:=2) (i0:=0) (j0:=1) rfl rfl (by decide) (Z19 _) (Nat.le_of_ble_eq_true rfl) (Nat.le_of_ble_eq_true rfl) rfl) ?_;refine Zf (Z1E (k:=11) (l:=kpC ks L) rfl rfl (Z8U ks L)) ?_;refine gd 78 ⟨?_⟩;refine Qe (ZfY hn hk L hp) ⟨Z8U ks L,Yt,Yt⟩ ?_;refine go ?_;exact Z7 rfl ⟨Z16 _,Yt,Yt,Yt,Yt⟩ (.yes p hpo (by omega))
 have hexp:=Zby h hn S hk i e he L;refine gd 82 ⟨?_⟩;refine Zbx hexp rfl rfl rfl rfl rfl rfl (by decide) (by decide) (by decide) ⟨hsr,Yt⟩ ⟨Yt,Yt⟩ ⟨Yt,Yt⟩ (Z2 _) (Z19 _) ?_;rintro v b1' b2' - - - ⟨k2,rfl,rfl,p1,p2,p3⟩;rcases p3 with⟨rfl,p3⟩|⟨rfl,p3⟩
 . refine go ?_;have:=p2.len;have:=p1.length_le
   refine⟨(i+1,k2),fun i=>mv 1 13 (mv 2 14 i),⟨by show i+1<=k2.length; omega,p2,htin.pre p1,fun m e' hm he'=>?_⟩,by show 2 ^ t.n-(i+1)<2 ^ t.n-i; omega,fun i hi=>absurd hi (Nat.not_lt_zero i),Zy rfl,
    ⟨Qp hpp,Qp hsr,Qt 0 0 0,⟨_,by show some _=some _; rw [hinc],.pure _ Yt⟩,Yt⟩,
    ⟨⟨by decide,_,rfl,RenB.single ⟨.own (ρ:=fun i=>mv 1 13 (mv 2 14 i)) 1 (by decide),.own (ρ:=fun i=>mv 1 13 (mv 2 14 i)) 2 (by decide),.pure _ Yt,Yt⟩ rfl⟩,Qs (Z2 _),Qs (Z19 _),Yt⟩⟩
   by_cases hmi:m<i
   . have := hex m e' hmi (pre_get' p1 he' (by omega));exact⟨this.1.pre p1,this.2⟩
   . obtain rfl : m = i := by omega
     rw [Z8O p1 he] at he';cases he';exact⟨p3,hho⟩
 . refine go ?_;have:=p2.len;exact Z7 rfl ⟨Yt,Yt,Yt,Yt,Yt⟩ (.lim (by omega))
section
variable {P:Program} {e:Env} {h:Heap} {n:Nat}
theorem ZhK {k:Nat} {p q:PV} (hk:e k=some p) (hr:RenP (fun i=>i) (fun _=>False) p q):SubA n e h n (e.upd k q) h:=by
 rintro C a w ⟨F,φ,s⟩;refine⟨F,φ,{ s with env:=fun j r hq=>?_ }⟩;by_cases hj:j=k
 . subst hj;rw [Env.upd_same] at hq;cases hq;exact⟨(s.env j p hk).1,hr.rep (fun i x hd _=>hd.elim) (s.env j p hk).2⟩
 . rw [Env.upd_ne _ _ hj] at hq;exact s.env j r hq
end
theorem ZbA (l:List Int) (N:Nat) (h:maskTo (topOf l) l=N) (fl:Bool):Spec Tryz.prog 17 [.vec (nums l) fl] (· = setN N):=h▸ZaB l fl
theorem Z3S:Small ([]:List Pr):=fun p hp=>by cases hp
theorem Zg0 {a b:Nat} (h:Up [] a b):False:=by
 cases h with
 | one h=>cases h
 | more _ h=>cases h
theorem Zj5 {s m:Nat} (hs:s ||| mkN m=mkN m) (hm:m<=63):clo [] s=s:=by
 have hlt:s<18446744073709551616:=by
  have h1:s<=mkN m:=by rw [<- hs]; exact Nat.left_le_or
  have:=Z4o hm;omega
 refine Nat.eq_of_testBit_eq fun i=>?_;rw [Bool.eq_iff_iff,Z6K Z3S hlt];constructor
 . rintro ⟨a, h1, h2, h3⟩;rcases (Z4A Z3S i a).1 h3 with h4|rfl
   . exact (Zg0 h4).elim
   . exact h1
 . intro h1;have h2:=orSub.1 hs i h1;rw [Z2k,Y0k,Y0n] at h2;exact⟨i,h1,h2.1,(Z4A Z3S i i).2 (.inr rfl)⟩
def rsE:List RU := [⟨false,(0,0),1,0⟩,⟨false,(2,0),2,0⟩,⟨true,(0,0),1,0⟩]
def tE (nv:List Cu):PB:=⟨3,[],0,rsE,nv,[(4,2)]⟩
def t0:PB:=tE []
def t1:PB:=tE [(6,0)]
theorem Zj6 (r:Nat):sen [] r=2 ^ r:=Nat.eq_of_testBit_eq fun a=>by
 rw [Bool.eq_iff_iff,Z4A Z3S,Nat.testBit_two_pow,Y0n];exact⟨fun h=>h.elim (fun h=>(Zg0 h).elim) Eq.symm,fun h=>.inr h.symm⟩
def leastN (s:Nat):Nat:=((List.range 64).find? fun i=>s.testBit i).getD 0
theorem Z7T {s:Nat} (hs:s<18446744073709551616) (h:s≠0):s.testBit (leastN s)=true/\∀ i,i<leastN s->s.testBit i=false:=by
 obtain⟨i,hi⟩:=Nat.exists_testBit_of_ne_zero h;have hi64:=Z4S hs hi;unfold leastN;cases hf:(List.range 64).find? fun i=>s.testBit i with
 | none=>exact absurd hi (List.find?_eq_none.1 hf i (List.mem_range.2 hi64))
 | some k =>
   refine⟨List.find?_some hf,fun j hj=>?_⟩;have hj:j<k:=hj;have hk:=List.mem_range.1 (List.mem_of_find?_eq_some hf);obtain⟨h1,aa,bs,hab,hno⟩:=List.find?_eq_some_iff_append.1 hf;have hlen:aa.length=k:=by
    have h2:(List.range 64)[aa.length]?=some k:=by rw [hab]; simp
    have h3:aa.length<64:=by
     have:(List.range 64).length=aa.length+(1+bs.length):=by rw [hab]; simp; omega
     simp at this;omega
    rw [List.getElem?_range h3] at h2;exact Option.some.inj h2
   have hja:j∈aa:=by
    have h2:(List.range 64)[j]?=some j:=List.getElem?_range (by omega);rw [hab,List.getElem?_append_left (by omega)] at h2;exact List.mem_of_getElem? h2
   have:=hno j hja;simpa using this
theorem Z9T (s:Nat):leastN s<64:=by
 unfold leastN;cases hf:(List.range 64).find? fun i=>s.testBit i with
 | none=>exact Nat.zero_lt_succ _
 | some k=>exact List.mem_range.1 (List.mem_of_find?_eq_some hf)
theorem ZhL {x:Nat} (hx:x<18446744073709551616) (h:x≠0):tz x=leastN x:=by
 obtain⟨m,hm⟩:=Z4T h;obtain⟨h1,h2⟩:=Z7T hx h;have hb:∀ j,x.testBit j=(decide (tz x<=j)&&(2*m+1).testBit (j-tz x)):=fun j=>by
  conv=>lhs; rw [hm]
  rw [Nat.testBit_two_pow_mul]
 rcases Nat.lt_trichotomy (tz x) (leastN x) with h3|h3|h3
 . have := h2 _ h3;rw [hb,Nat.sub_self] at this;simp at this
 . exact h3
 . rw [hb, Y0w (by omega)] at h1;cases h1
theorem ZbB (N:Nat) (hN:N<18446744073709551616):Spec Tryz.prog 185 [setN N] (· = .tup [.val (.int .i64 ((if N=0 then 0 else leastN N:Nat):Int)),.val (.bool (decide (N≠0)))]):=by
 refine Yp ok185 fun C hC=>?_;by_cases h0:N=0
 . rw [if_pos h0, Y0w (fun h => h h0)];have hs:setN N=.agg [.vec [] false]:=by rw [h0]; exact ZfK
   rw [hs];refine gd 1 ⟨?_⟩;refine Z5 rfl rfl rfl ?_;refine go ?_;refine Zn hC (fun _:Unit=>True) (fun _=>0) 0 (fun _ => [(8,.val (.int .i64 0)),(9,.val (.int .i64 0))]) (fun _=>[]) (Y0l _) () Yt ⟨⟨rfl,Yt⟩,⟨rfl,Yt⟩,Yt⟩ Yt ?_;intro _ _;refine go ?_;exact Z7 rfl ⟨Yt,Yt,Yt⟩ rfl
 . rw [if_neg h0, decide_eq_true h0];have hs:setN N=.agg [.vec [[.val (.int .u64 (N:Int))]] false]:=by unfold setN; rw [Z43 hN h0]; rfl
   have htz:=ZaI N hN h0;rw [ZhL hN h0] at htz;have hlo:=Z9T N;rw [hs];refine gd 1 ⟨?_⟩;refine Z5 rfl rfl rfl ?_;refine go ?_;refine Zn hC (fun _:Unit=>True) (fun _=>0) 0 (fun _ => [(7,.vec [[.val (.int .u64 (N:Int))]] false),(8,.val (.int .i64 1)),(9,.val (.int .i64 0))]) (fun _=>[]) (Y0l _) () Yt ⟨⟨rfl,⟨Yt,Yt⟩,Yt⟩,⟨rfl,Yt⟩,⟨rfl,Yt⟩,Yt⟩ Yt ?_;intro _ _;refine gd 15 ⟨?_⟩;refine Qo (Z4 (v:=true) rfl (bne_iff_ne.2 (by omega))) ?_;refine gd 19 ⟨?_⟩;refine Qe htz ⟨Yt,Yt⟩ ?_
   refine Zg (v:=((leastN N:Nat):Int)) rfl rfl rfl (by
    rw [show IntKind.i64.wrap ((64:Int)*0)=0 by decide,Int.zero_add]
    exact Y0v _ ⟨by omega,by omega⟩) ?_
   refine go ?_;exact Z7 rfl ⟨Yt,Yt,Yt⟩ rfl
def mOf (d:ND):Nat:=mentC d.so ||| mentC d.no
def relS (sn:Nat->Nat) (d:ND) (o:Nat) (l:List Nat):Nat:=l.foldl (fun o r=>if d.cl then o ||| sn r else o) o
def relT (sn:Nat->Nat) (ds:List ND):Nat:=ds.foldl (fun o d=>relS sn d (o ||| mOf d) (mem (mOf d))) 0
theorem ZbC {sn:Nat->Nat} (hsn:∀ r,r<64->sn r<18446744073709551616) (d:ND):∀ (l:List Nat) (o:Nat),(∀ r∈l,r<64)->o<18446744073709551616->relS sn d o l<18446744073709551616
 | [],o,_,h=>h
 | r :: l, o, hl, h => by
   refine ZbC hsn d l _ (fun r hr=>hl r (List.mem_cons_of_mem _ hr)) ?_;show (if d.cl then o ||| sn r else o)<_
   split
   . exact Z2C h (hsn r (hl r (Y0t ..)))
   . exact h
theorem Zg1 {sn:Nat->Nat} {ds:List ND} {i:Nat} (hi:i<ds.length):relT sn (ds.take (i+1))=relS sn ds[i] (relT sn (ds.take i) ||| mOf ds[i]) (mem (mOf ds[i])):=by
 unfold relT;rw [List.take_succ_eq_append_getElem hi,List.foldl_append]
 rfl
structure NdZ (d:ND):Prop extends NdOk d where
 z:(mOf d).testBit 0=false
theorem Zic {d:ND} (h:NdOk d):mOf d<18446744073709551616:=Z2C (Z49 h.so) (Z49 h.no)
theorem ZbD {sn:Nat->Nat} (hsn:∀ r,r<64->sn r<18446744073709551616):∀ (ds:List ND) (o:Nat),(∀ d∈ds,NdOk d)->o<18446744073709551616->ds.foldl (fun o d=>relS sn d (o ||| mOf d) (mem (mOf d))) o<18446744073709551616
 | [],o,_,h=>h
 | d :: ds,o,hd,h=>ZbD hsn ds _ (fun d hd'=>hd d (List.mem_cons_of_mem _ hd')) (ZbC hsn d _ _ (fun r hr=>Z33 hr) (Z2C h (Zic (hd d (Y0t ..)))))
theorem Z8V (t:PB) (hsm:Small t.l) (S:List Nat) (ds:List ND) (fl:Bool) (hds:∀ d∈ds,NdZ d) (hdl:ds.length<900000):Spec Tryz.prog 160 [.agg (pbP t S),.vec (ds.map ndP) fl] (· = setN (relT (sen t.l) ds)):=by
 refine Yp ok160 fun C hC=>?_;have hpp:=ZL t S;have hml:(ds.map ndP).length=ds.length:=Y0f ..;have hdp:pureLL (ds.map ndP):=Z9 Z2s ds;have hsn:∀ r,r<64->sen t.l r<18446744073709551616:=fun r hr=>Zcx t.l hsm hr;refine gd 2 ⟨?_⟩;refine Z5 rfl rfl rfl ?_;refine go ?_;refine ZF hC (fun i=>i<=ds.length) (fun i=>ds.length-i) 2 (fun i => [(2,.cp (pbP t S)),(4,.ptr 0 0 0),(5,.ptr 1 0 0),(10,.vec (ds.map ndP) fl),(11,.val (.int .i64 (ds.length:Int))),(12,Yv i)]) (fun i => [(0,⟨1,[[.vec [] true]]⟩),(1,sBx (relT (sen t.l) (ds.take i)))]) (by decide) 0 (Y0l _)
  (fun i=>i) (fun _ _=>rfl) (Zy rfl) ⟨Qp hpp,Qt 0 0 0,Qt 1 0 0,Qp hdp,⟨_,by rw [<- hml]; rfl,.pure _ Yt⟩,Qp Yt,Yt⟩
  ⟨Qs ⟨⟨Yt,Yt⟩,Yt⟩,⟨by decide,⟨1,[[.vec [] true]]⟩,rfl,by rw [show relT (sen t.l) (ds.take 0)=0 from rfl]; show RenB _ _ _ ⟨1,[[.vec (words (digs 0)) false]]⟩; rw [ZJ]; exact RenB.single (ρ:=fun i=>i) (l0 := [.vec [] true]) (l := [.vec [] false]) (show RenLs _ _ [_] [_] from ⟨.low (.vec [] true) Yt,Yt⟩) rfl⟩,Yt⟩ ?_
 intro i hi;have hinc:IntKind.i64.wrap ((i:Int)+1)=((i+1:Nat):Int):=Y0v _ ⟨by omega,by omega⟩;have hrl:relT (sen t.l) (ds.take i)<18446744073709551616:=ZbD hsn _ 0 (fun d hd=>(hds d (List.mem_of_mem_take hd)).toNdOk) (by decide);refine gd 13 ⟨?_⟩;by_cases hil:i<ds.length
 . refine Qo (Qy rfl (by omega)) ?_;have hd:=hds ds[i] (Y0j hil);have hst:=Zg1 (sn:=sen t.l) hil;refine gd 14 ⟨?_⟩;refine Qo (Zm (xs:=ds) (g:=ndP) rfl rfl i rfl hil rfl) ?_;generalize ds[i]=d at hd hst;have hmo:=Zic hd.toNdOk;generalize relT (sen t.l) (ds.take i)=o at hrl hst;have hom:=Z2C hrl hmo;refine gd 18 ⟨?_⟩;refine Qd (Z2A d.so d.sf hd.so) ⟨Z9 Ze _,Yt⟩ ?_;refine gd 21 ⟨?_⟩;refine Qd (Z2A d.no d.nf hd.no) ⟨Z9 Ze _,Yt⟩ ?_;refine Qd (Z1j _ _ (Z49 hd.so) (Z49 hd.no)) ⟨Z1 _,Z1 _,Yt⟩ ?_;change dK _ _ _ _ (updO _ _ (setN (mOf d))) _ _;have hzz:=hd.z;generalize hMM:mOf d=M at hmo hst hom hzz;refine gd 25 ⟨?_⟩;refine Qe (Z1j o M hrl hmo) ⟨Z1 _,Z1 _,Yt⟩ ?_;refine gd 27 ⟨?_⟩;refine Qe (Z25 M) ⟨Z1 _,Yt⟩ ?_;refine go ?_;have hnp:=Z2s d;have hni:∀ D,innL D (ndP d):=fun D=>Zv (fun _ h=>h.elim) _ hnp;have hpi:∀ D,innL D (pbP t S):=fun D=>Zv (fun _ h=>h.elim) _ hpp;have hdi:∀ D,innLL D (ds.map ndP):=fun D=>Zb (fun _ h=>h.elim) _ hdp
   have hpos:∀ r∈mem M,1<=r/\r<64:=fun r hr=>⟨by
    rcases Nat.eq_zero_or_pos r with h|h
    . rw [h,Z1k hmo] at hr; rw [hr] at hzz; cases hzz
    . exact h,Z33 hr⟩
   refine Z3e (X:=List Nat) hC (caps := [.cp [.vec (words (digs M)) false]]) [(2,.cp (pbP t S)),(4,.ptr 0 0 0),(5,.ptr 1 0 0),(7,.ptr 2 0 0),(10,.vec (ds.map ndP) fl),(11,.val (.int .i64 (ds.length:Int))),(12,Yv i),(27,.fn 128 [.cp [.vec (words (digs M)) false]])]
    (fun z => [(0,⟨1,[[.vec [] true]]⟩),(1,sBx (relS (sen t.l) d (o ||| M) z)),(2,⟨6,[ndP d]⟩)]) rfl ⟨⟨Za _,Yt⟩,Yt⟩ (Z3h M hmo) (fun _=>rfl)
    (fun ex pre z=>ex=.normal/\z=pre.map (·.val)) 3 (by decide) [] ⟨rfl,rfl⟩
    (Z40 hC (by decide) ⟨⟨rfl,hpi _⟩,⟨rfl,show 0<3 by decide⟩,⟨rfl,show 1<3 by decide⟩,⟨rfl,show 2<3 by decide⟩,⟨rfl,hdi _⟩,⟨rfl,Yt⟩,⟨rfl,Yt⟩,⟨rfl,⟨Zj _ _,Yt⟩,Yt⟩,Yt⟩ ⟨⟨by decide,rfl,⟨⟨Yt,Yt⟩,Yt⟩⟩,⟨by decide,rfl,Z2D _ _⟩,⟨by decide,rfl,hni _,Yt⟩,Yt⟩)
    (fun z q hq=>by simp at hq; rcases hq with rfl|rfl|rfl<;>exact Nat.zero_lt_succ _) _ (fun x=>rfl) ?_ ?_ ?_
   . rintro C2 hC2 pre x z ⟨-, rfl⟩ hlen;have hx:=hpos x.val x.2;have hstp:relS (sen t.l) d (o ||| M) (pre.map (·.val) ++ [x.val])=if d.cl then relS (sen t.l) d (o ||| M) (pre.map (·.val)) ||| sen t.l x.val else relS (sen t.l) d (o ||| M) (pre.map (·.val)):=by unfold relS; rw [List.foldl_append]; rfl
     have hz:=ZbC hsn d (pre.map (·.val)) _ (fun r hr=>by obtain⟨y,_,rfl⟩:=Y0i.1 hr; exact (hpos _ y.2).2) hom;refine gd 30 ⟨?_⟩;cases hcl:d.cl
     . rw [hcl, if_neg (by decide)] at hstp;refine Qo (Z4 (v:=false) rfl hcl) ?_;refine go ?_
       exact⟨.inl rfl,pre.map (·.val) ++ [x.val],fun i=>i,⟨rfl,by rw [Y0r]; rfl⟩,fun i hi=>rfl,Zt,
        ⟨Qp hpp,Qt 0 0 0,Qt 1 0 0,Qt 2 0 0,Qp hdp,Qp Yt,Qp Yt,Qp ⟨⟨Za _,Yt⟩,Yt⟩,Yt⟩,
        ⟨Qs ⟨⟨Yt,Yt⟩,Yt⟩,⟨by decide,_,rfl,by rw [hstp]; exact .same _ ⟨⟨Za _,Yt⟩,Yt⟩⟩,Qs ⟨hnp,Yt⟩,Yt⟩⟩
     . rw [hcl, if_pos rfl] at hstp;refine Qo (Z4 (v:=true) rfl hcl) ?_;refine gd 35 ⟨?_⟩;refine Qd (Z3M t.l S x.val hx.1 hx.2) ⟨Zw _ _,Yt,Yt⟩ ?_;refine Qd (Z1j _ _ hz (hsn _ hx.2)) ⟨Z1 _,Z1 _,Yt⟩ ?_;rw [<- hstp];refine go ?_
       exact⟨.inl rfl,pre.map (·.val) ++ [x.val],fun i=>i,⟨rfl,by rw [Y0r]; rfl⟩,fun i hi=>rfl,Zt,
        ⟨Qp hpp,Qt 0 0 0,Qt 1 0 0,Qt 2 0 0,Qp hdp,Qp Yt,Qp Yt,Qp ⟨⟨Za _,Yt⟩,Yt⟩,Yt⟩,
        ⟨Qs ⟨⟨Yt,Yt⟩,Yt⟩,Qs ⟨⟨Za _,Yt⟩,Yt⟩,Qs ⟨hnp,Yt⟩,Yt⟩⟩
   . rintro xs z hxs ⟨-, rfl⟩;rw [hxs];refine go ?_
     exact⟨i+1,fun i=>i,by omega,by omega,fun _ _=>rfl,Zt,⟨Qp hpp,Qt 0 0 0,Qt 1 0 0,Qp hdp,Qp Yt,⟨_,by show some _=some _; rw [hinc],.pure _ Yt⟩,Yt⟩,
      ⟨Qs ⟨⟨Yt,Yt⟩,Yt⟩,⟨by decide,_,rfl,by rw [hst]; exact .same _ ⟨⟨Za _,Yt⟩,Yt⟩⟩,Yt⟩⟩
   . rintro ex pre z - ⟨rfl,_⟩ (h|⟨id,h⟩)<;>cases h
 . obtain rfl : i = ds.length := by omega
   refine Qo (Qz rfl (by omega)) ?_;rw [Y0q];refine go ?_;exact Z7 rfl (Z1 _) rfl
end
end Go.Proofs.YtmnbbggaoembeaaGreatDoor
