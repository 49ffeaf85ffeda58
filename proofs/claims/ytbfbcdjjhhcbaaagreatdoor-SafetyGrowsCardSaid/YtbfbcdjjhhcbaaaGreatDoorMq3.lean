/-
  Merged from the texts that this claim's theorem needs, part 4 of 7. No statement of the seat is proved here.
-/
import Derived.Calls
import Derived.Laws.Bits64
import Derived.Laws.Bits64b
import Derived.Lone
import Derived.StepT
import Derived.Test.YtbfbcdjjhhcbaaaGreatDoorMq2
set_option linter.unusedSimpArgs false
set_option linter.unusedVariables false
set_option linter.unusedSectionVars false
set_option maxRecDepth 100000
set_option maxHeartbeats 16000000
namespace Go.Proofs.YtbfbcdjjhhcbaaaGreatDoor
section
open Go.RowKit
attribute [local irreducible] aw Xk dK
theorem Z1W:XH 0=.agg [.vec [] false]:=by rw [XH,ZM]; rfl
theorem Z4Z {N:Nat} (h:N<18446744073709551616) (h0:N≠0):X7 N = [N]:=by
 rw [Z4b h0,Y1m h,Y1W h,ZM]
theorem Z3m {N:Nat} (h:N<18446744073709551616) (h0:N≠0):XH N=.agg [.vec [[.val (.int .u64 (N:Int))]] false]:=by rw [XH,Z4Z h h0]; rfl
theorem XZ {a b:Bool} (h:a=b):PV.val (.bool a)=PV.val (.bool b):=by rw [h]
theorem Z19 {N:Nat} (h:N<18446744073709551616):(N=0/\XH N=.agg [.vec [] false]) \/ (N≠0/\XH N=.agg [.vec [[.val (.int .u64 (N:Int))]] false]):=by
 by_cases h0:N=0
 . subst h0; exact .inl ⟨rfl,Z1W⟩
 . exact .inr ⟨h0,Z3m h h0⟩
def Xe (a b:Nat):Nat:=a &&& (18446744073709551615-b)
theorem ZF {a b:Nat} (ha:a<18446744073709551616) (hb:b<18446744073709551616) (i:Nat):(Xe a b).testBit i=(a.testBit i && !b.testBit i):=by
 have h:=Y3i (n:=64) hb i;have e:(2:Nat) ^ 64-(b+1)=18446744073709551615-b:=by omega
 rw [e] at h;rw [Xe,Y0z,h];by_cases hi:i<64
 . simp [hi]
 . have : a.testBit i = false := Y27 (YE ha (YX (n := 2) (by omega) (show 64 <= i by omega)));simp [this]
theorem Z50 {a b:Nat} (ha:a<18446744073709551616):Xe a b<18446744073709551616:=Y02 Y1s ha
theorem Z1j (a b:Nat) (ha:a<18446744073709551616) (hb:b<18446744073709551616):bits .andNot .u64 (a:Int) (b:Int)=((Xe a b:Nat):Int):=by
 have hx:Xe a b<2 ^ 64:=Z50 ha;have h1:(BitVec.ofInt 64 (a:Int)).toNat=a:=by
  rw [Y1v,Y1V]; exact Y1m (by omega)
 have h2:(~~~(BitVec.ofInt 64 (b:Int))).toNat=18446744073709551615-b:=by
  rw [BitVec.toNat_not,Y1v,Y1V,Y1m (by omega)]
 show IntKind.u64.wrap ((BitVec.ofInt 64 (a:Int) &&& ~~~(BitVec.ofInt 64 (b:Int))).toNat:Int)=_;rw [Y3M,h1,h2,Y3e];show ((Xe a b:Nat):Int) % 18446744073709551616=_;omega
theorem Zba {a b:Nat} (ha:a<18446744073709551616) (hb:b<18446744073709551616):Xe a b=0↔a ||| b=b:=by
 constructor
 . intro h;refine YF fun i=>?_;have:=congrArg (fun z=>Nat.testBit z i) h;simp only [ZF ha hb,Y1E] at this;rw [Y00];cases h1:a.testBit i<;>cases h2:b.testBit i<;>simp_all
 . intro h;refine YF fun i=>?_;have:=congrArg (fun z=>Nat.testBit z i) h;simp only [Y00] at this;rw [ZF ha hb,Y1E];cases h1:a.testBit i<;>cases h2:b.testBit i<;>simp_all
theorem Z4c (N M:Nat) (hN:N<18446744073709551616) (hM:M<18446744073709551616):Xa Tryz.prog 31 [XH N,XH M] (· = .val (.bool (decide (N &&& M≠0)))):=by
 have hand:=Y28 N M hN hM;rcases Z19 hN with⟨rfl,e1⟩|⟨h1,e1⟩<;>rcases Z19 hM with⟨rfl,e2⟩|⟨h2,e2⟩<;>rw [e1]<;>(try rw [e2])<;>clear e1 e2
 all_goals
  refine Yp ok31 fun C hC=>?_;refine Zq ?_;refine Za ?_;refine Z5 rfl rfl rfl ?_;refine Z5 rfl rfl rfl ?_;refine go ?_;refine Z1z 1 ?_;(refine go ?_;repeat' (apply B<;>intro hb<;>try cases hb))
 . exact Z8 rfl Yt (XZ (by simp))
 . exact Z8 rfl Yt (XZ (by simp))
 . exact Z8 rfl Yt (XZ (by simp))
 . refine Z8 rfl Yt (XZ ?_);rw [hand] at hb;have h3:¬ ((N &&& M:Nat):Int)=0:=by simpa using hb
   have h4:N &&& M≠0:=by omega
   simp [h4]
 . refine Z8 rfl Yt (XZ ?_);rw [hand] at hb;have h3:((N &&& M:Nat):Int)=0:=by simpa using hb
   have h4:N &&& M=0:=by omega
   simp [h4]
theorem Z1P (N M:Nat) (hN:N<18446744073709551616) (hM:M<18446744073709551616):Xa Tryz.prog 90 [XH N,XH M] (· = .val (.bool (decide (N ||| M=M)))):=by
 have hand:=Z1j N M hN hM;have hz:=Zba hN hM;rcases Z19 hN with⟨rfl,e1⟩|⟨h1,e1⟩<;>rcases Z19 hM with⟨rfl,e2⟩|⟨h2,e2⟩<;>rw [e1]<;>(try rw [e2])<;>clear e1 e2
 all_goals
  refine Yp ok90 fun C hC=>?_;refine Zq ?_;refine Za ?_;refine Z5 rfl rfl rfl ?_;refine Z5 rfl rfl rfl ?_;refine go ?_;refine Z1z 1 ?_;refine go ?_
 . exact Z8 rfl Yt (XZ (by simp))
 . exact Z8 rfl Yt (XZ (by simp))
 . refine Qe (Z1e [] 0) ⟨⟨Yt, Yt⟩, Yt, Yt⟩ ?_;(refine go ?_;repeat' (apply B<;>intro hb<;>try cases hb))
   . exact Z8 rfl Yt (XZ (by simp;omega))
   . have h3 : bits .andNot .u64 (N : Int) ((0 : Nat) : Int) = 0 := by simpa using hb
     rw [hand] at h3;exact absurd (hz.1 (by omega)) (by simp;omega)
 . refine Qe (Z1e [M] 0) ⟨⟨⟨⟨Yt, Yt⟩, Yt⟩, Yt⟩, Yt, Yt⟩ ?_;(refine go ?_;repeat' (apply B<;>intro hb<;>try cases hb))
   . have h3 : ¬ bits .andNot .u64 (N : Int) (M : Int) = 0 := by simpa using hb
     rw [hand] at h3;have h4:¬ (N ||| M=M):=fun h=>h3 (by rw [hz.2 h]; rfl);exact Z8 rfl Yt (XZ (by simp [h4]))
   . have h3 : bits .andNot .u64 (N : Int) (M : Int) = 0 := by simpa using hb
     rw [hand] at h3;have h4:N ||| M=M:=hz.1 (by omega)
     exact Z8 rfl Yt (XZ (by simp [h4]))
theorem Z36 (N:Nat) (hN:N<18446744073709551616):Xa Tryz.prog 32 [XH N] (· = .val (.bool (decide (N=0)))):=by
 rcases Z19 hN with⟨rfl,e1⟩|⟨h1,e1⟩<;>rw [e1]
 all_goals
  refine Yp ok32 fun C hC=>?_;refine Zq ?_;refine Za ?_;refine Z5 rfl rfl rfl ?_;refine go ?_
 . exact Z8 rfl Yt (XZ (by simp))
 . exact Z8 rfl Yt (XZ (by simp [h1]))
theorem Z4A (N M:Nat) (hN:N<18446744073709551616) (hM:M<18446744073709551616):Xa Tryz.prog 71 [XH N,XH M] (· = .val (.bool (decide (N=M)))):=by
 rcases Z19 hN with⟨rfl,e1⟩|⟨h1,e1⟩<;>rcases Z19 hM with⟨rfl,e2⟩|⟨h2,e2⟩<;>rw [e1]<;>(try rw [e2])<;>clear e1 e2
 all_goals
  refine Yp ok71 fun C hC=>?_;refine Zq ?_;refine Za ?_;refine Z5 rfl rfl rfl ?_;refine Z5 rfl rfl rfl ?_;refine go ?_
 . refine Z1z 1 ?_;refine go ?_;exact Z8 rfl Yt (XZ (by simp))
 . exact Z8 rfl Yt (XZ (by simp;omega))
 . exact Z8 rfl Yt (XZ (by simp;omega))
 . refine Z1z 1 ?_;(refine go ?_;repeat' (apply B<;>intro hb<;>try cases hb))
   . have h3 : ¬ (N : Int) = (M : Int) := by simpa using hb
     exact Z8 rfl Yt (XZ (by simp;omega))
   . have h3 : (N : Int) = (M : Int) := by simpa using hb
     exact Z8 rfl Yt (XZ (by simp;omega))
theorem Z1X {N M:Nat} (hN:N<18446744073709551616) (hM:M<18446744073709551616):N ||| M<18446744073709551616:=Y2l (n:=64) hN hM
theorem Zj4 {N M:Nat} (h:N≠0 \/ M≠0):N ||| M≠0:=fun h0=>by
 have h1:∀ i,(N ||| M).testBit i=false:=fun i=>by rw [h0]; simp
 rcases h with h|h
 . exact h (YF fun i=>by have:=h1 i; rw [Y00] at this; simp at this; simp [this.1])
 . exact h (YF fun i=>by have:=h1 i; rw [Y00] at this; simp at this; simp [this.2])
theorem Z1G (N M:Nat) (hN:N<18446744073709551616) (hM:M<18446744073709551616):Xa Tryz.prog 70 [XH N,XH M] (· = XH (N ||| M)):=by
 have hlt:=Z1X hN hM;rcases Z19 hN with⟨rfl,e1⟩|⟨h1,e1⟩<;>rcases Z19 hM with⟨rfl,e2⟩|⟨h2,e2⟩<;>rw [e1]<;>(try rw [e2])<;>clear e1 e2
 all_goals
  refine Yp ok70 fun C hC=>?_;refine Zq ?_;refine Za ?_;refine Z5 rfl rfl rfl ?_;refine Z5 rfl rfl rfl ?_;refine go ?_;refine Z1z 1 ?_
  repeat' (first|refine Zb (Zn (k:=31) rfl rfl (ZU rfl)) ?_|(first|refine st ?_|(apply B<;>intro hb<;>try cases hb)))
 . exact Z8 rfl (Z2C rfl) Z1W.symm
 . refine Qd (Z1e [] 0) (ZY rfl) ?_;refine go ?_;refine Qd (Z1e [M] 0) (ZY rfl) ?_;refine Qr (ZS rfl (Y1S 0 M hN hM)) ?_
   repeat' (first|refine Zb (Zn (k:=31) rfl rfl (ZU rfl)) ?_|(first|refine st ?_|(apply B<;>intro hb<;>try cases hb)))
   exact Z8 rfl (Z2C rfl) (Z3m hlt (Zj4 (.inr h2))).symm
 . refine Qd (Z1e [N] 0) (ZY rfl) ?_;refine go ?_;refine Qd (Z1e [] 0) (ZY rfl) ?_;refine Qr (ZS rfl (Y1S N 0 hN hM)) ?_
   repeat' (first|refine Zb (Zn (k:=31) rfl rfl (ZU rfl)) ?_|(first|refine st ?_|(apply B<;>intro hb<;>try cases hb)))
   exact Z8 rfl (Z2C rfl) (Z3m hlt (Zj4 (.inl h1))).symm
 . refine Qd (Z1e [N] 0) (ZY rfl) ?_;refine go ?_;refine Qd (Z1e [M] 0) (ZY rfl) ?_;refine Qr (ZS rfl (Y1S N M hN hM)) ?_
   repeat' (first|refine Zb (Zn (k:=31) rfl rfl (ZU rfl)) ?_|(first|refine st ?_|(apply B<;>intro hb<;>try cases hb)))
   exact Z8 rfl (Z2C rfl) (Z3m hlt (Zj4 (.inl h1))).symm
theorem Z5R {N i:Nat} (hN:N<18446744073709551616) (h:N.testBit i=true):i<64:=by
 rcases Y37 i 64 with h' | h'
 . exact h'
 . have : N.testBit i = false := Y27 (YE hN (YX (n := 2) (by omega) (show 64 <= i by omega)));rw [this] at h; cases h
theorem Zkm {N i:Nat} (h:N.testBit i=true):N≠0:=fun h0=>by rw [h0] at h; simp at h
theorem ZV {i:Nat} (h:i<64):2 ^ i<18446744073709551616:=by
 show 2 ^ i<2 ^ 64;exact Y1L (by omega) h
theorem Z1Y (N:Nat) (hN:N<18446744073709551616) (i:Int):Xa Tryz.prog 29 [XH N,.val (.int .i64 i)] (· = .val (.bool (decide (0<=i)&&N.testBit i.toNat))):=by
 refine (Zcz (X7 N) (Z34 N) i).mono fun r hr=>?_;rw [hr];refine XZ ?_;have h:=Z2B (Z34 N) i.toNat;rw [Z6e] at h;rw [<- h];by_cases h0:0<=i
 . by_cases h1 : i <= 4095
   . simp [h0,h1]
   . have : N.testBit i.toNat = false := by
      cases hb:N.testBit i.toNat with
      | false=>rfl
      | true=>have:=Z5R hN hb; omega
     simp [this]
 . simp [h0]
def X1b (N:Nat) (i:Int):Nat:=if 0<=i/\N.testBit i.toNat=true then Xe N (2 ^ i.toNat) else N
theorem Z3B {N:Nat} (hN:N<18446744073709551616) (i j:Nat):(X1b N i).testBit j=(N.testBit j&&decide (j≠i)):=by
 unfold X1b
 split
 . rename_i h;rw [Y11] at h ⊢;rw [ZF hN (ZV (Z5R hN h.2)),YK];by_cases hji:j=i
   . subst hji; simp
   . simp [hji,Y25 hji]
 . rename_i h;have h':N.testBit i=false:=by
    rw [Y11] at h;cases hb:N.testBit i with
    | false=>rfl
    | true=>exact absurd ⟨by omega,hb⟩ h
   by_cases hji:j=i
   . subst hji; simp [h']
   . simp [hji]
theorem Z1Z (N:Nat) (hN:N<18446744073709551616) (i:Int):Xa Tryz.prog 89 [XH N,.val (.int .i64 i)] (· = XH (X1b N i)):=by
 refine Yp ok89 fun C hC=>?_;refine Zq ?_;refine Za ?_;refine Z5 rfl rfl rfl ?_;refine go ?_;refine Qe (Z1Y N hN i) ⟨Z2 N,Yt,Yt⟩ ?_;by_cases h:0<=i/\N.testBit i.toNat=true
 case neg =>
  have hb:(decide (0<=i)&&N.testBit i.toNat)=false:=by
   cases hb:N.testBit i.toNat with
   | false=>simp
   | true=>simp only [hb,and_true] at h; simp [h]
  rw [hb];refine go ?_;refine Z8 rfl (Z2 N) ?_;rw [X1b,Y6 h]; rfl
 obtain⟨h0,hbit⟩:=h;obtain⟨j,rfl⟩:∃ j:Nat,i=j:=⟨i.toNat,by omega⟩
 rw [Y11] at hbit;have hj:=Z5R hN hbit;have hne:=Zkm hbit;have hp:=ZV hj;have e0:X1b N (j:Int)=Xe N (2 ^ j):=by rw [X1b,Y5 ⟨h0,by rw [Y11]; exact hbit⟩,Y11]
 have hb:(decide (0<=(j:Int))&&N.testBit (j:Int).toNat)=true:=by rw [Y11,hbit]; simp
 rw [hb,e0,Z3m hN hne];have hq:IntKind.i64.wrap ((j:Int).tdiv 64)=((0:Nat):Int):=by
  rw [Y2Z _ _ ⟨by omega,by omega,by omega⟩]; omega
 have hr:(j:Int).tmod 64=((j:Nat):Int):=by
  rw [Y1N (by omega)]; omega
 iterate 5 (first|refine st ?_|(apply B<;>intro hb<;>try cases hb))
 (first|refine st ?_|(apply B<;>intro hb<;>try cases hb));refine Z4y rfl rfl rfl ?_
 iterate 2 (first|refine st ?_|(apply B<;>intro hb<;>try cases hb))
 refine ZH (Zt (k:=1) rfl rfl rfl (fun c hc=>by
  rw [Y0g.1 hc]; rfl) rfl (by show (0+1)*8<=_;omega)) rfl rfl ?_
 refine go ?_;rw [hq]
 iterate 3 (first|refine st ?_|(apply B<;>intro hb<;>try cases hb))
 refine Qr (ZS rfl hr) ?_
 refine Qr (Zf2 rfl rfl (by omega) (v:=((2 ^ j:Nat):Int)) (by
  rw [show min ((j:Int)).toNat IntKind.u64.bits=j by simp [IntKind.bits]; omega];rw [Y4d,show (2:Int) ^ j=((2 ^ j:Nat):Int) by simp]
  exact Y0x _ ⟨Y1U _,Y38.2 (show _<=18446744073709551615 by omega)⟩)) ?_
 refine Qr (ZS rfl (Z1j N (2 ^ j) hN hp)) ?_
 repeat' (first|refine Zb (Zn (k:=25) rfl rfl (ZU rfl)) ?_|(first|refine st ?_|(apply B<;>intro hb<;>try cases hb)))
 refine Zz rfl rfl (Z2i [Xe N (2 ^ j)]) (ZY rfl) rfl fun r hr=>?_;have hw:X1t [Xe N (2 ^ j)]:=fun x hx=>by rw [Y0g.1 hx]; exact Z50 hN
 have e1:=hr.set hw;have e2:ofW [Xe N (2 ^ j)]=Xe N (2 ^ j):=by simp [ofW]
 rw [e2] at e1;subst e1;refine go ?_;exact Z8 rfl (Z2 _) rfl
def tz (x:Nat):Nat:=if h:x % 2=1 \/ x=0 then 0 else tz (x / 2)+1
termination_by x
decreasing_by omega
theorem Z6f:∀ {x:Nat},x≠0->∃ m,x=2 ^ tz x*(2*m+1):=by
 intro x
 induction x using Nat.strongRecOn with
 | _ x ih =>
   intro h0;by_cases h:x % 2=1 \/ x=0
   . rw [tz, dif_pos h];exact⟨x / 2,by omega⟩
   . rw [tz, dif_neg h];obtain⟨m,hm⟩:=ih (x / 2) (by omega) (by omega);refine⟨m,?_⟩;rw [Y21,Nat.mul_assoc,Y1M 2,<- Nat.mul_assoc,<- hm];omega
theorem Z2s (k m i:Nat):(2 ^ k*(2*m+1)).testBit i=(decide (i=k)||(decide (k<i)&&m.testBit (i-k-1))):=by
 rw [Nat.testBit_two_pow_mul];by_cases h:k<=i
 . obtain ⟨j, rfl⟩ : ∃ j, i = k + j := ⟨i - k, by omega⟩;rw [show k+j-k=j by omega];cases j with
   | zero=>simp [Y2s]
   | succ j =>
     rw [Y3u];have e:(2*m+1).testBit (j+1)=m.testBit j:=by rw [Y2K]; congr 1; omega
     simp [e]
 . have h1 : ¬ i = k := by omega
   have h2:¬ k<i:=by omega
   simp [h,h1,h2]
theorem Z5S (k m i:Nat):(2 ^ k*(2*m+1)-1).testBit i=(decide (i<k)||(decide (k<i)&&m.testBit (i-k-1))):=by
 have hp:0<2 ^ k:=Nat.pos_of_ne_zero (by simp);have e:2 ^ k*(2*m+1)-1=2 ^ k*(2*m)+(2 ^ k-1):=by rw [Nat.mul_add]; omega
 rw [e,Y4C _ (by omega)];by_cases h:i<k
 . rw [Y5 h, Y3n];simp [h]
 . rw [Y6 h];have h':¬ i<k:=h;obtain⟨j,rfl⟩:∃ j,i=k+j:=⟨i-k,by omega⟩
   rw [show k+j-k=j by omega];cases j with
   | zero=>simp [Y2s]
   | succ j =>
     rw [Y3u];have e:(2*m).testBit (j+1)=m.testBit j:=by rw [Y2K]; congr 1; omega
     simp [e];omega
theorem Z9I {x:Nat} (h:x≠0):x.testBit (tz x)=true:=by
 obtain⟨m,hm⟩:=Z6f h;generalize tz x=k at hm ⊢;rw [hm,Z2s]; simp
theorem Zkn {x i:Nat} (h:x≠0) (hi:x.testBit i=true):tz x<=i:=by
 obtain⟨m,hm⟩:=Z6f h;generalize tz x=k at hm ⊢;rw [hm,Z2s] at hi;simp at hi;omega
theorem Z51 {x:Nat} (h:x≠0) (i:Nat):(x &&& (x-1)).testBit i=(x.testBit i&&decide (i≠tz x)):=by
 obtain⟨m,hm⟩:=Z6f h;generalize tz x=k at hm ⊢;rw [Y0z,hm,Z2s,Z5S];by_cases h1:i=k
 . subst h1; simp
 . by_cases h2 : k < i
   . have h3 : ¬ i < k := by omega
     simp [h1,h2,h3]
   . simp [h1,h2]
theorem Zj5 {x:Nat} (hx:x<18446744073709551616) (h:x≠0):x &&& (18446744073709551616-x)=2 ^ tz x:=by
 have hlt:=Z5R hx (Z9I h);obtain⟨m,hm⟩:=Z6f h;generalize tz x=k at hm hlt ⊢;refine YF fun i=>?_;have e:18446744073709551616-x=2 ^ 64-((x-1)+1):=by omega
 rw [Y0z,e,Y3i (by omega),hm,Z2s,Z5S,YK];by_cases h1:i=k
 . subst h1; simp [hlt]
 . have h1' : ¬ k = i := fun h => h1 h.symm;by_cases h2:k<i
   . simp [h1, h1', h2];intro a _ _;exact a
   . simp [h1,h1',h2]
theorem Zhg:∀ k:Fin 64,(285870213051353865*2 ^ k.val % 18446744073709551616 / 288230376151711744)<64/\X1T[285870213051353865*2 ^ k.val % 18446744073709551616 / 288230376151711744]?=some ((k.val:Nat):Int):=by decide
theorem ZlB {g j:Nat} {n:Nat} {e:Env} {h:X1} {i:Operand} {k:IntKind} (hg:X3b g=X1T.map fun x=>.int .u8 x) (hi:ev e i=some (.val (.int k (j:Nat)))) (hj:j<64) :
 X3 (.iaddrA 64 1 (.global g) i) e h n=some (.cp ((zpv (X1T.map fun x=>.int .u8 x)).drop (j*1)),h):=by
 have hev:ev e (.global g)=some (.cp (zpv (X1T.map fun x=>.int .u8 x))):=by
  simp only [ev,hg]; rfl
 simp only [X3,hev,hi];rw [Y5 ⟨by omega,by omega⟩,Y11]
theorem Zlb {j k n:Nat} {e:Env} {h:X1} {a:Operand} (ha:ev e a=some (.cp ((zpv (X1T.map fun x=>.int .u8 x)).drop (j*1)))) (hj:X1T[j]?=some ((k:Nat):Int)):X3 (.load false 1 a) e h n=some (.val (.int .u8 (k:Nat)),h):=by
 have hlt:j<X1T.length:=(Y8.1 hj).1;have hl:(zpv (X1T.map fun x=>.int .u8 x)).drop (j*1)=.val (.int .u8 (k:Nat)) :: (zpv (X1T.map fun x=>.int .u8 x)).drop (j+1):=by
  rw [Y26,Y1C (by simp [zpv]; exact hlt)];congr 1;have:=(Y8.1 hj).2;simp [zpv,X3Z,this]
 simp only [X3,ha,hl];simp [X1a]
theorem Zfg (x:Nat) (hx:x<18446744073709551616) (h:x≠0):Xa Tryz.prog 135 [.val (.int .u64 (x:Int))] (· = .val (.int .i64 (tz x:Nat))):=by
 have hk:=Z5R hx (Z9I h);have hp:=ZV hk;have hneg:IntKind.u64.wrap (0-(x:Int))=((18446744073709551616-x:Nat):Int):=by
  rw [Y3e]; omega
 have hand:bits .and .u64 (x:Int) (IntKind.u64.wrap (0-(x:Int)))=((2 ^ tz x:Nat):Int):=by
  rw [hneg,Y28 _ _ hx (by omega),Zj5 hx h]
 have hmul:IntKind.u64.wrap (((2 ^ tz x:Nat):Int)*285870213051353865)=((285870213051353865*2 ^ tz x % 18446744073709551616:Nat):Int):=by
  rw [Y3e,Int.mul_comm]
  rfl
 obtain⟨t1,t2⟩:=Zhg ⟨tz x,hk⟩;simp only at t1 t2;refine Yp ok135 fun C hC=>?_
 iterate 8 (first|refine st ?_|(apply B<;>intro hb<;>try cases hb))
 refine ZaX rfl rfl rfl (v:=false) (by simp; exact h) ?_;(first|refine st ?_|(apply B<;>intro hb<;>try cases hb));(first|refine st ?_|(apply B<;>intro hb<;>try cases hb))
 iterate 6 (first|refine st ?_|(apply B<;>intro hb<;>try cases hb))
 refine Zh rfl rfl rfl hand ?_;refine Zh rfl rfl rfl hmul ?_;refine Zh rfl rfl rfl (v:=((285870213051353865*2 ^ tz x % 18446744073709551616 / 288230376151711744:Nat):Int)) ?_ ?_
 . show Int.fdiv _ (2 ^ 58) = _;rw [Z8D]
 refine Qo (ZlB rfl rfl t1) ?_;refine Qo (Zlb rfl t2) ?_;refine Zh rfl rfl rfl (Y0v _ ⟨by omega,by omega⟩) ?_;refine go ?_;exact Z8 rfl Yt rfl
end
section
open Go.RowKit
attribute [local irreducible] aw Xk dK jw
def mem (N:Nat):List Nat:=(List.range 64).filter fun i=>N.testBit i
theorem Z15 {N i:Nat} (hN:N<18446744073709551616):i∈mem N↔N.testBit i=true:=by
 simp only [mem,Y18,Y1t];exact⟨fun h=>h.2,fun h=>⟨Z5R hN h,h⟩⟩
theorem Z7P (N:Nat):(mem N).Pairwise (· < ·):=List.Pairwise.filter _ List.pairwise_lt_range
theorem Z3C {N i:Nat} (h:i∈mem N):i<64:=by
 simp only [mem,Y18,Y1t] at h; exact h.1
theorem Z2y (N:Nat):(mem N).length<=64:=by
 have:=Y1J (fun i=>N.testBit i) (List.range 64);simpa [mem] using this
theorem Zfh:∀ {l m:List Nat},l.Pairwise (· < ·)->m.Pairwise (· < ·)->(∀ x,x∈l↔x∈m)->l=m
 | [],[],_,_,_=>rfl
 | [],y :: m,_,_,h=>by have:=(h y).2 (by simp); cases this
 | x :: l,[],_,_,h=>by have:=(h x).1 (by simp); cases this
 | x :: l, y :: m, hl, hm, h => by
   rw [Y10] at hl hm;have hxy:x=y:=by
    have h1:=(h x).1 (by simp);have h2:=(h y).2 (by simp);rcases Y9.1 h1 with h1|h1
    . exact h1
    . rcases Y9.1 h2 with h2 | h2
      . exact h2.symm
      . have:=hm.1 x h1; have:=hl.1 y h2; omega
   subst hxy;congr 1;refine Zfh hl.2 hm.2 fun z=>?_;constructor
   . intro hz;rcases Y9.1 ((h z).1 (by simp [hz])) with hz' | hz'
     . have:=hl.1 z hz; omega
     . exact hz'
   . intro hz;rcases Y9.1 ((h z).2 (by simp [hz])) with hz' | hz'
     . have:=hm.1 z hz; omega
     . exact hz'
theorem ZcB:mem 0 = []:=by simp [mem]
theorem Zhh {y:Nat} (hy:y<18446744073709551616) (h:y≠0):mem y=tz y :: mem (y &&& (y-1)):=by
 have hlt:y &&& (y-1)<18446744073709551616:=Y02 Y1s hy;refine Zfh (Z7P y) ?_ fun z=>?_
 . rw [Y10];refine⟨fun z hz=>?_,Z7P _⟩;rw [Z15 hlt,Z51 h] at hz;have h1:y.testBit z=true/\z≠tz y:=by simpa using hz
   have:=Zkn h h1.1;omega
 . rw [Y9, Z15 hy, Z15 hlt, Z51 h];constructor
   . intro hz;by_cases he:z=tz y
     . exact .inl he
     . exact .inr (by simp [hz,he])
   . rintro (rfl | hz)
     . exact Z9I h
     . have h1 : y.testBit z = true /\ z ≠ tz y := by simpa using hz
       exact h1.1
abbrev X6w (N:Nat):={ i:Nat // i∈mem N }
def X8f (N:Nat) (x:X6w N):List Value := [.int .i64 (x.val:Int)]
theorem Z1R (N:Nat):Xa Tryz.prog 73 [XH N] (· = .fn 134 [.cp [.vec (X5 (X7 N)) false]]):=by
 refine Yp ok73 fun C hC=>?_;refine Zq ?_;refine Za ?_;refine Z5 rfl rfl rfl ?_;refine go ?_;exact Z8 rfl ⟨⟨Z4 _,Yt⟩,Yt⟩ rfl
theorem Zhi {y:Nat} (hy:y<18446744073709551616):y &&& (y-1)<18446744073709551616:=Y02 Y1s hy
theorem Zhj {y:Nat} (h:y≠0):y &&& (y-1)<y:=Y02 Y29 (by omega)
theorem Z2L (N:Nat) (hN:N<18446744073709551616):X4r Tryz.prog 134 [.cp [.vec (X5 (X7 N)) false]] (X8f N) (fun xs=>xs.map (·.val)=mem N) (fun pre=>∃ t,pre.map (·.val)++t=mem N) (mem N).length:=by
 refine ZdJ ok134 (Y0 rfl) fun Y hYN hYe hYs hYn=>?_;by_cases h0:N=0
 . subst h0;rw [ZM]
   repeat' (first
    | refine Z4Y ?_
    | refine Z2j ?_
    | refine Z1V ?_
    | refine Z25 rfl ?_
    | refine Z3l ?_
    | refine Z4z ?_
    | refine Z5u ?_
    | refine Z7M ?_
    | refine Z28 (b:=true) rfl (fun _=>?_) (fun h=>by cases h)
    | refine Z28 (b:=false) rfl (fun h=>by cases h) (fun _=>?_))
   refine Zb9 (X:=Unit) (fun _=>True) (fun _=>0) (fun _=>[]) (fun _ => [(7,.val (.int .i64 ((0:Nat):Int))),(8,.val (.int .i64 0))]) () Yt rfl ⟨rfl,rfl,Yt⟩ ?_;rintro⟨⟩ -
   repeat' (first
    | refine Z4Y ?_
    | refine Z2j ?_
    | refine Z1V ?_
    | refine Z25 rfl ?_
    | refine Z3l ?_
    | refine Z4z ?_
    | refine Z5u ?_
    | refine Z7M ?_
    | refine Z28 (b:=true) rfl (fun _=>?_) (fun h=>by cases h)
    | refine Z28 (b:=false) rfl (fun h=>by cases h) (fun _=>?_))
   exact⟨.inl rfl,ZcB.symm⟩
 rw [Z4Z hN h0]
 repeat' (first
  | refine Z4Y ?_
  | refine Z2j ?_
  | refine Z1V ?_
  | refine Z25 rfl ?_
  | refine Z3l ?_
  | refine Z4z ?_
  | refine Z5u ?_
  | refine Z7M ?_
  | refine Z28 (b:=true) rfl (fun _=>?_) (fun h=>by cases h)
  | refine Z28 (b:=false) rfl (fun h=>by cases h) (fun _=>?_))
 refine Zb9 (X:=Bool×List (X6w N)) (fun x=>(x.1=true->x.2.map (·.val)=mem N)/\(x.1=false->x.2 = [])) (fun x=>if x.1 then 0 else 1) (fun x=>x.2)
  (fun x => [(0,.val (.func (.yield Y.l) #[] #[])),(6,.vec [[.val (.int .u64 (N:Int))]] false),(7,.val (.int .i64 ((1:Nat):Int))),(8,.val (.int .i64 (if x.1 then 1 else 0)))]) (false,[]) ⟨by simp,by simp⟩ rfl ⟨rfl,rfl,rfl,rfl,Yt⟩ ?_
 rintro⟨b,pre⟩ ⟨hb1,hb2⟩;simp only at hb1 hb2;cases b with
 | true =>
   repeat' (first
    | refine Z4Y ?_
    | refine Z2j ?_
    | refine Z1V ?_
    | refine Z25 rfl ?_
    | refine Z3l ?_
    | refine Z4z ?_
    | refine Z5u ?_
    | refine Z7M ?_
    | refine Z28 (b:=true) rfl (fun _=>?_) (fun h=>by cases h)
    | refine Z28 (b:=false) rfl (fun h=>by cases h) (fun _=>?_))
   exact⟨.inl rfl,hb1 rfl⟩
 | false =>
   obtain rfl:=hb2 rfl
   repeat' (first
    | refine Z4Y ?_
    | refine Z2j ?_
    | refine Z1V ?_
    | refine Z25 rfl ?_
    | refine Z3l ?_
    | refine Z4z ?_
    | refine Z5u ?_
    | refine Z7M ?_
    | refine Z28 (b:=true) rfl (fun _=>?_) (fun h=>by cases h)
    | refine Z28 (b:=false) rfl (fun h=>by cases h) (fun _=>?_))
   refine Zb9 (X:=Nat×List (X6w N)) (fun x=>x.1<18446744073709551616/\x.2.map (·.val)++mem x.1=mem N) (fun x=>x.1) (fun x=>x.2)
    (fun x => [(0,.val (.func (.yield Y.l) #[] #[])),(3,.val (.int .i64 0)),(4,.val (.int .u64 (x.1:Int))),(6,.vec [[.val (.int .u64 (N:Int))]] false),(7,.val (.int .i64 ((1:Nat):Int))),(8,.val (.int .i64 0))]) (N,[]) ⟨hN,by simp⟩ rfl ⟨rfl,rfl,rfl,rfl,rfl,rfl,Yt⟩ ?_
   rintro⟨y,pre⟩ ⟨hy,hpre⟩;simp only at hy hpre;refine Z4Y ?_;refine Z4Y ?_;refine Z2j ?_;refine Z25 rfl ?_;refine Z25 rfl ?_;refine Z1V ?_;by_cases hy0:y=0
   . subst hy0;rw [ZcB,Y0p] at hpre
     repeat' (first
      | refine Z4Y ?_
      | refine Z2j ?_
      | refine Z1V ?_
      | refine Z25 rfl ?_
      | refine Z3l ?_
      | refine Z4z ?_
      | refine Z5u ?_
      | refine Z7M ?_
      | refine Z28 (b:=true) rfl (fun _=>?_) (fun h=>by cases h)
      | refine Z28 (b:=false) rfl (fun h=>by cases h) (fun _=>?_))
     exact⟨(true,pre),⟨fun _=>hpre,fun h=>by cases h⟩,by simp,rfl,rfl,rfl,rfl,rfl,Yt⟩
   . have hne : ((y : Int) != 0) = true := by simp; exact hy0
     have hcond:∀ {e:Env},e 14=some (.val (.bool ((y:Int) != 0)))->ev e (.tmp 14)=some (.val (.bool true)):=fun h=>by rw [hne] at h; exact h
     refine Z28 (b:=true) (hcond rfl) (fun _=>?_) (fun h=>by cases h);rw [Zhh hy hy0] at hpre;have hmem:tz y∈mem N:=by rw [<- hpre]; simp
     have hlt:=Z3C hmem;have hlen:pre.length<(mem N).length:=by rw [<- hpre]; simp
     have hsum:IntKind.i64.wrap (IntKind.i64.wrap (64*0)+((tz y:Nat):Int))=((tz y:Nat):Int):=by
      rw [show IntKind.i64.wrap (64*0)=0 from rfl,Int.zero_add];exact Y0v _ ⟨by omega,by omega⟩
     refine Z4z ?_;refine Z4Y ?_;refine Z3l ?_;refine Zhf (al := [_,_,_,_,_,_]) (d1:=25) (d2:=26) ⟨tz y,hmem⟩ ?_;refine Z25 rfl ?_;refine Z25 rfl ?_;refine Z25 rfl ?_;refine Z25 rfl ?_;refine Zff (Zfg y hy hy0) rfl rfl rfl ⟨Yt,Yt⟩ ?_;refine Z25 (p:=.val (.int .i64 ((tz y:Nat):Int))) ?_ ?_
     . show some (PV.val (Value.int .i64 (IntKind.i64.wrap (IntKind.i64.wrap (64 * 0) + ((tz y : Nat) : Int))))) = _;rw [hsum]
     refine Z1V ⟨rfl,rfl,by rw [hYe]; rfl,by rw [hYN]; exact hlen,?_,?_⟩
     . rw [hYs];exact⟨mem (y &&& (y-1)),by rw [Y0r,YU]; exact hpre⟩
     have hand:bits .and .u64 (y:Int) (IntKind.u64.wrap ((y:Int)-1))=((y &&& (y-1):Nat):Int):=by
      rw [Y3e,show ((y:Int)-1) % 18446744073709551616=((y-1:Nat):Int) by omega];exact Y28 _ _ hy (by omega)
     refine Z2j ?_;refine Z25 rfl ?_;refine Z25 rfl ?_;refine Z25 rfl ?_;refine Z25 (p:=.val (.int .u64 ((y &&& (y-1):Nat):Int))) ?_ ?_
     . show some (PV.val (Value.int .u64 (bits .and .u64 (y : Int) (IntKind.u64.wrap ((y : Int) - 1))))) = _;rw [hand]
     refine Z25 rfl ?_;refine Z1V ?_;exact⟨(y &&& (y-1),pre ++ [⟨tz y,hmem⟩]),⟨Zhi hy,by rw [Y0r,YU]; exact hpre⟩,Zhj hy0,rfl,rfl,rfl,rfl,rfl,rfl,rfl,Yt⟩
def Xb (l:List Nat):List Int:=l.map fun (x:Nat)=>(x:Int)
end
section
open Go.RowKit
abbrev Pr:=Nat×Nat
def prC (p:Pr):List PV := [.val (.int .i64 (p.1:Int)),.val (.int .i64 (p.2:Int))]
theorem Z4d (p:Pr):X6 (prC p):=⟨Yt,Yt,Yt⟩
inductive Up (l:List Pr):Nat->Nat->Prop
 | one {a b:Nat} (h:(a,b)∈l):Up l a b
 | more {a b c:Nat} (h:Up l a b) (k:(b,c)∈l):Up l a c
theorem Zko {l:List Pr} {a b:Nat}:Up l a b↔∃ c,(c,b)∈l/\(a=c \/ Up l a c):=by
 constructor
 . intro h;cases h with
   | one h=>exact⟨a,h,.inl rfl⟩
   | more h k=>exact⟨_,k,.inr h⟩
 . rintro ⟨c, h, rfl | k⟩
   . exact .one h
   . exact .more k h
def XL (l:List Pr):Prop:=∀ p∈l,p.1<64/\p.2<64
theorem Up.lt {l:List Pr} (hl:XL l) {a b:Nat} (h:Up l a b):a<64/\b<64:=by
 induction h with
 | one h=>exact hl _ h
 | more _ k ih=>exact⟨ih.1,(hl _ k).2⟩
def Acy (l:List Pr):Prop:=∃ rank:Nat->Nat,∀ p∈l,rank p.1<rank p.2
theorem Acy.sub {l m:List Pr} (h:Acy m) (hs:∀ p∈l,p∈m):Acy l:=by
 obtain⟨r,hr⟩:=h;exact⟨r,fun p hp=>hr p (hs p hp)⟩
def ofP (p:Nat->Bool):Nat->Nat
 | 0=>0
 | k+1=>if p k then ofP p k ||| 2 ^ k else ofP p k
theorem Z8F (p:Nat->Bool):∀ k i,(ofP p k).testBit i=(decide (i<k)&&p i)
 | 0,i=>by simp [ofP]
 | k + 1, i => by
   have ih:=Z8F p k i;unfold ofP;by_cases hk:i=k
   . subst hk;cases hp:p i with
     | true=>rw [Y5 rfl,Y00,Y2P]; simp
     | false=>rw [Y6 (by decide),ih]; simp
   . have h2 : decide (i < k + 1) = decide (i < k) := Y3a.2 (by omega);rw [h2]
     split
     . rw [Y00,Nat.testBit_two_pow_of_ne (by omega),Y4S,ih]
     . exact ih
theorem ZiC (p:Nat->Bool):∀ k,ofP p k<2 ^ k
 | 0=>by simp [ofP]
 | k + 1 => by
   have:=ZiC p k;have h2:2 ^ (k+1)=2 ^ k+2 ^ k:=by rw [Y21]; omega
   unfold ofP
   split
   . exact Y2l (by omega) (by omega)
   . omega
theorem Zfi (p:Nat->Bool):ofP p 64<18446744073709551616:=ZiC p 64
theorem X5T {a b:Nat} (ha:a<18446744073709551616) (hb:b<18446744073709551616) (h:∀ i,i<64->a.testBit i=b.testBit i):a=b:=by
 apply YF;intro i;by_cases hi:i<64
 . exact h i hi
 . have e : ∀ {x : Nat}, x < 18446744073709551616 -> x.testBit i = false := fun {x} hx => Y27 (YE hx (YX (n := 2) (by decide) (show 64 <= i by omega)));rw [e ha,e hb]
open Classical in
noncomputable def abv (l:List Pr) (b:Nat):Nat:=ofP (fun a=>decide (Up l a b)) 64
open Classical in
noncomputable def bel (l:List Pr) (a:Nat):Nat:=ofP (fun b=>decide (Up l a b)) 64
theorem Z6H {l:List Pr} (hl:XL l) (a b:Nat):(abv l b).testBit a=true↔Up l a b:=by
 unfold abv;rw [Z8F];simp only [Y0k,Y0n];exact⟨fun h=>h.2,fun h=>⟨(h.lt hl).1,h⟩⟩
theorem Zfj {l:List Pr} (hl:XL l) (a b:Nat):(bel l a).testBit b=true↔Up l a b:=by
 unfold bel;rw [Z8F];simp only [Y0k,Y0n];exact⟨fun h=>h.2,fun h=>⟨(h.lt hl).2,h⟩⟩
theorem Z6I (l:List Pr) (b:Nat):abv l b<18446744073709551616:=Zfi _
theorem Zfk (l:List Pr) (a:Nat):bel l a<18446744073709551616:=Zfi _
structure X2Z (l:List Pr) (S:List Nat):Prop where
 nodup:S.Nodup
 lt:∀ x∈S,x<64
 pred:∀ (t:Nat) (ht:t<S.length) (a:Nat),(a,S[t])∈l->a∈S.take t
theorem X2Z.nil (l:List Pr):X2Z l []:=⟨Y3y,fun _ h=>(by cases h),fun t ht=>absurd ht (YL t)⟩
theorem X2Z.closed {l:List Pr} {S:List Nat} (h:X2Z l S) {a b:Nat} (hp:(a,b)∈l) (hb:b∈S):a∈S:=by
 obtain⟨t,ht,rfl⟩:=Y15 hb;exact YM (h.pred t ht a hp)
theorem X2Z.snoc {l:List Pr} {S:List Nat} (h:X2Z l S) {k:Nat} (hk:k ∉ S) (h64:k<64) (hp:∀ a,(a,k)∈l->a∈S):X2Z l (S ++ [k]):=by
 refine⟨?_,?_,?_⟩
 . rw [Y34];exact⟨h.nodup,by simp,fun a ha b hb e=>by rw [Y0g] at hb; subst hb; subst e; exact hk ha⟩
 . intro x hx;rcases Y0h.1 hx with hx|hx
   . exact h.lt x hx
   . rw [Y0g] at hx; omega
 . intro t ht a ha;rw [Y0e,Y0s] at ht;by_cases htl:t<S.length
   . rw [List.getElem_append_left htl] at ha;rw [Y3c (by omega)];exact h.pred t htl a ha
   . have e : t = S.length := by omega
     subst e;rw [List.getElem_append_right (Y0m _)] at ha;simp only [Y36,List.getElem_singleton] at ha;rw [List.take_left']
     . exact hp a ha
     . rfl
theorem Z2M:∀ (n:Nat) (S:List Nat),S.Nodup->(∀ x∈S,x<n)->S.length<=n
 | 0, S, _, h => by
   cases S with
   | nil=>exact Y0m _
   | cons a S=>exact absurd (h a (Y0t ..)) (YL a)
 | n + 1, S, hn, h => by
   have hlen:=List.length_erase (a:=n) (l:=S);have ih:=Z2M n (S.erase n) (hn.sublist List.erase_sublist) fun x hx=>by
    have h1:=h x (List.mem_of_mem_erase hx);have h2:x≠n:=fun e=>by rw [e] at hx; exact (List.Nodup.mem_erase_iff hn).1 hx |>.1 rfl
    omega
   split at hlen<;>omega
theorem X2Z.len {l:List Pr} {S:List Nat} (h:X2Z l S):S.length<=64:=Z2M 64 S h.nodup h.lt
theorem X2Z.all {l:List Pr} {S:List Nat} (h:X2Z l S) (h64:S.length=64) {j:Nat} (hj:j<64):j∈S:=by
 apply YV;intro hno;have:=Z2M 64 (j :: S) (Y2X.2 ⟨hno,h.nodup⟩) fun x hx=>by
  rcases Y9.1 hx with rfl|hx
  . exact hj
  . exact h.lt x hx
 rw [Y04] at this;omega
theorem X7Z {l:List Pr} (hl:XL l) (hacy:Acy l) {S:List Nat} (h:X2Z l S) (hlt:S.length<64):∃ j,j<64/\j ∉ S/\∀ a,(a,j)∈l->a∈S:=by
 obtain⟨rank,hr⟩:=hacy;have key:∀ m j,rank j<=m->j<64->j ∉ S->∃ j,j<64/\j ∉ S/\∀ a,(a,j)∈l->a∈S:=by
  intro m
  induction m with
  | zero =>
    intro j hm hj hno;exact⟨j,hj,hno,fun a ha=>by have:=hr _ ha; simp only at this; omega⟩
  | succ m ih =>
    intro j hm hj hno;by_cases hall:∀ a,(a,j)∈l->a∈S
    . exact⟨j,hj,hno,hall⟩
    . obtain ⟨a, ha⟩ := Classical.not_forall.1 hall;obtain⟨ha,hna⟩:=Classical.not_imp.1 ha;have h1:=hr _ ha;simp only at h1;exact ih a (by omega) (hl _ ha).1 hna
 have hex:∃ j,j<64/\j ∉ S:=by
  apply YV;intro hno;have hall:∀ j,j<64->j∈S:=fun j hj=>YV fun h=>hno ⟨j,hj,h⟩;have hp:(List.range 64).Perm S:=(List.perm_ext_iff_of_nodup List.nodup_range h.nodup).2 fun x=>by
   rw [Y1t];exact⟨hall x,h.lt x⟩
  have:=hp.length_eq;rw [Y2D] at this;omega
 obtain⟨j,hj,hno⟩:=hex;exact key _ j (Y0m _) hj hno
def X1A (l:List Pr) (S:List Nat) (j:Nat):Int:=if j∈S then -1 else (l.countP fun p=>p.2 == j && !decide (p.1∈S):Nat)
def X1c (l:List Pr) (S:List Nat) (k i j:Nat):Int:=if j∈S ++ [k] then -1 else ((l.take i).countP (fun p=>p.2 == j && !decide (p.1∈S ++ [k]))+(l.drop i).countP (fun p=>p.2 == j && !decide (p.1∈S)):Nat)
theorem Z7Q {l:List Pr} {S:List Nat} {j:Nat}:X1A l S j=0↔j ∉ S/\∀ a,(a,j)∈l->a∈S:=by
 unfold X1A
 split
 . rename_i h; exact⟨fun e=>absurd e (by decide),fun e=>absurd h e.1⟩
 . rename_i h;rw [show ((0:Int))=((0:Nat):Int) from rfl,Y2q,List.countP_eq_zero];constructor
   . intro h2;refine⟨h,fun a ha=>?_⟩;have:=h2 _ ha;simpa using this
   . rintro ⟨-, h2⟩ p hp;by_cases e:p.2=j
     . have := h2 p.1 (by rw [<- e]; exact hp);simp [this]
     . simp [e]
theorem ZdK (l:List Pr) (S:List Nat) (k j:Nat):X1c l S k 0 j=if j=k then -1 else X1A l S j:=by
 unfold X1c X1A;rw [Y1A,Y16,Y4F,Y17];by_cases hk:j=k
 . rw [Y5 hk,Y5 (by rw [hk]; simp)]
 . rw [Y6 hk];by_cases hj:j∈S
   . rw [Y5 hj,Y5 (Y3f _ hj)]
   . rw [Y6 hj,Y6 (by simp [hj,hk])]
theorem Zfl (l:List Pr) (S:List Nat) (k j:Nat):X1c l S k l.length j=X1A l (S ++ [k]) j:=by
 unfold X1c X1A;rw [Y0q,List.drop_length,Y4F,Y1g]
theorem ZdL {l:List Pr} {S:List Nat} {k i:Nat} (hi:i<l.length) (j:Nat) (hT:X2Z l S) (hk:k ∉ S) (hp:∀ a,(a,k)∈l->a∈S) :
 X1c l S k (i+1) j=if l[i].1=k/\j=l[i].2 then X1c l S k i j-1 else X1c l S k i j:=by
 have htk:l.take (i+1)=l.take i ++ [l[i]]:=by rw [YY,Y0c hi]; rfl
 have hdr:l.drop i=l[i] :: l.drop (i+1):=Y1C hi;have hmem:l[i]∈l:=Y0j hi;unfold X1c;rw [htk,hdr,List.countP_append,List.countP_cons,Y4F,Y17,List.countP_cons];generalize l[i]=p at hmem;by_cases hpk:p.1=k
 . have hkk : (k, p.2) ∈ l := by rw [<- hpk]; exact hmem
   have hp2:p.2 ∉ S ++ [k]:=by
    rw [Y0h,Y0g];rintro (h|h)
    . exact hk (hT.closed hkk h)
    . rw [h] at hkk; exact hk (hp k hkk)
   by_cases hj:j=p.2
   . have e1 : (p.2 == j && !decide (p.1 ∈ S ++ [k])) = false := by rw [hpk]; simp
     have e2:(p.2 == j && !decide (p.1∈S))=true:=by rw [hpk,hj]; simp [hk]
     have hjn:¬ j∈S ++ [k]:=hj▸hp2;rw [e1,e2,Y5 (show p.1=k/\j=p.2 from ⟨hpk,hj⟩),Y6 hjn,Y6 hjn,Y6 Bool.false_ne_true,Y5 rfl];omega
   . rw [Y6 (show ¬ (p.1 = k /\ j = p.2) from fun h => hj h.2)];have e:(p.2 == j)=false:=by rw [Y48]; exact Y25 hj
     simp only [e,Y35,Y2w,Y2g,Y1g]
 . rw [Y6 (show ¬ (p.1 = k /\ j = p.2) from fun h => hpk h.1)];have e:decide (p.1∈S ++ [k])=decide (p.1∈S):=Y3a.2 (by rw [Y0h,Y0g]; exact⟨fun h=>h.elim id fun h=>absurd h hpk,.inl⟩);rw [e];by_cases hjn:j∈S ++ [k]
   . rw [Y5 hjn,Y5 hjn]
   . rw [Y6 hjn,Y6 hjn]; omega
theorem Zhk (l:List Pr) (S:List Nat) (k i j:Nat) : -1<=X1c l S k i j/\X1c l S k i j<=l.length:=by
 unfold X1c;have h1:=Y42 (p:=fun p:Pr=>p.2 == j && !decide (p.1∈S ++ [k])) (l:=l.take i);have h2:=Y42 (p:=fun p:Pr=>p.2 == j && !decide (p.1∈S)) (l:=l.drop i);rw [Y0o] at h1;rw [YQ] at h2
 split<;>omega
def X3r (l:List Pr) (j:Nat):Nat:=l.countP fun p=>p.2 == j
theorem Zfm {l:List Pr} {i:Nat} (hi:i<l.length) (j:Nat):X3r (l.take (i+1)) j=if j=l[i].2 then X3r (l.take i) j+1 else X3r (l.take i) j:=by
 have htk:l.take (i+1)=l.take i ++ [l[i]]:=by rw [YY,Y0c hi]; rfl
 unfold X3r;rw [htk,List.countP_append,List.countP_singleton];by_cases h:j=l[i].2
 . rw [Y5 h]; simp [h]
 . rw [Y6 h]; simp [Y25 h]
theorem Zhl (l:List Pr) (j:Nat):X1A l [] j=(X3r l j:Nat):=by
 unfold X1A X3r;simp
theorem Zj6 (l:List Pr) (j:Nat):X3r l j<=l.length:=Y42
def tab (f:Nat->List PV):List (List PV):=(List.range 64).map f
theorem Z10 (f:Nat->List PV):(tab f).length=64:=by simp [tab]
theorem Z2X {f:Nat->List PV} {i:Nat} (hi:i<64):(tab f).getD i []=f i:=by
 rw [Y0b,tab,Y0y,Y3p hi]; rfl
theorem Zfn {f:Nat->List PV} {i:Nat} (r:List PV) (hi:i<64):(tab f).set i r=tab fun j=>if j=i then r else f j:=by
 apply List.ext_getElem?;intro j;rw [YW,Z10];unfold tab;rw [Y0y,Y0y];by_cases hj:j<64
 . rw [Y3p hj];by_cases e:i=j
   . subst e; simp [hi]
   . rw [Y6 e]; simp [Y25 e]
 . rw [Y2B (by simpa using hj)];by_cases e:i=j
   . subst e; exact absurd hi hj
   . rw [Y6 e]; rfl
theorem Z3P {f g:Nat->List PV} (h:∀ j,j<64->f j=g j):tab f=tab g:=Y2p fun j hj=>h j (Y1t.1 hj)
theorem Z1H {f:Nat->List PV} (h:∀ j,X6 (f j)):X2 (tab f):=by
 refine (Z2g _ _).2 fun r hr=>?_;obtain⟨j,_,rfl⟩:=Y0i.1 hr;exact h j
theorem Zj7 (r:List PV):List.replicate 64 r=tab fun _=>r:=by rw [tab,List.map_const',Y2D]
def X2s (f:Nat->Int) (j:Nat):List PV := [.val (.int .i64 (f j))]
theorem Z52 (f:Nat->Int) (j:Nat):X6 (X2s f j):=⟨Yt,Yt⟩
end
section
def rW {α:Type}:Result α->World
 | .ok _ w=>w
 | .halt _ w=>w
def sW:Stepped->Option World
 | .next m=>some m.world
 | .ended _ _=>none
def gW:GStep->Option World
 | .go _ w _=>some w
 | .comm _ _ _ _ w _=>some w
 | .spawn _ _ w _=>some w
 | .count _ w _=>some w
 | .timer _ _ w _=>some w
 | .alone _ _ w _=>some w
 | .newcoro _ _ _ w _=>some w
 | .coroswitch _ _ _ w _=>some w
 | .collect _ w _=>some w
 | .watch _ w _=>some w
 | .ended _ _ _=>none
def X1r (D:Nat):Option World->Prop
 | some w=>D<=w.drawn
 | none=>True
theorem X1r.mono {D E:Nat} (h:D<=E):∀ {o:Option World},X1r E o->X1r D o
 | some _,k=>Y03 h k
 | none,_=>trivial
@[simp] theorem Z4e (es:Array Event) (s:GStep):gW (GStep.after es s)=gW s:=by cases s<;>rfl
theorem Z6J {α:Type}:∀ (x:Ask α) (w:World),w.drawn<=(w.ask x).2.drawn
 | .done a,w=>Y0m _
 | .ask what range k, w => by
   rw [World.ask]
   split
   . exact Z6J _ w
   . exact Y03 (Y49 _) (Z6J _ { w with drawn:=w.drawn+1 })
theorem Zfo (w:World) (c:Sys):w.drawn<=(w.sys c).2.drawn:=by
 have h:=Z6J (Kernel.perform c w.os) w;unfold World.sys;generalize w.ask (Kernel.perform c w.os)=x at h;obtain⟨⟨r,os⟩,w'⟩:=x;cases r<;>first|exact Y0m _|exact h
theorem Z6K {p:Program} {w w':World} {a:Addr} {u:TypeId} {k:Addr} {v:Value} {at':Bool} {l:List Addr} (h:w.viewStore p a u k v at'=.ok (w',l)):w'.drawn=w.drawn:=by
 unfold World.viewStore at h;simp only [bind,Except.bind,pure,Except.pure] at h
 repeat' first
  | (cases h; done)
  | (cases h; rfl)
  | split at h
theorem Z7t {p:Program} {w w':World} {a:Addr} {v:Value} {at':Bool} {l:List Addr} (h:w.farStore p a v at'=.ok (w',l)):w'.drawn=w.drawn:=by
 unfold World.farStore at h
 repeat' first
  | (cases h; done)
  | (rename_i hv; cases h; exact Z6K hv)
  | split at h
theorem Z9J {α:Type} (P:Program):∀ (s:Sem α) (w:World),w.drawn<=(rW (s.run P w)).drawn:=by
 intro s
 induction s with
 | pure a=>exact fun w=>Y0m _
 | load m a k ih =>
   intro w;simp only [Sem.run]
   split
   . exact ih _ _
   . split
     . exact ih _ _
     . exact Y0m _
 | store m a v k ih =>
   intro w;cases v<;>simp only [Sem.run]<;>first
    | exact Y0m _
    | (split
       . split
         . exact Y0m _
         . exact ih (w.setCell a _)
       . split
         . rename_i hf;exact Y03 (Y4o (Z7t hf).symm) (ih _)
         . exact Y0m _)
 | new o k ih=>intro w; simp only [Sem.run]; exact ih _ { w with heap:=w.heap.push o }
 | shape r k ih=>intro w; simp only [Sem.run]; exact ih _ _
 | freeze a n k ih =>
   intro w;simp only [Sem.run];refine Y03 (Y4o ?_) (ih _);unfold World.freeze
   split<;>rfl
 | frozen a k ih=>intro w; simp only [Sem.run]; exact ih _ _
 | getObj r k ih =>
   intro w;simp only [Sem.run]
   split
   . exact Y0m _
   . exact ih _ _
   . exact Y0m _
 | setObj r o k ih =>
   intro w;simp only [Sem.run]
   split
   . exact Y0m _
   . exact ih { w with heap:=w.heap.setIfInBounds r o }
   . exact Y0m _
 | choose q k ih =>
   intro w;simp only [Sem.run]
   split
   . exact ih _ _
   . exact Y03 (Y49 _) (ih _ { w with drawn:=w.drawn+1 })
 | sys c k ih=>intro w; simp only [Sem.run]; exact Y03 (Zfo w c) (ih _ _)
 | program k ih=>intro w; simp only [Sem.run]; exact ih _ _
 | mark m k ih=>intro w; simp only [Sem.run]; exact ih _
 | halt h=>exact fun w=>Y0m _
theorem Z1f {α:Type} {P:Program} {s:Sem α} {w w':World} {a:α} (h:s.run P w=.ok a w'):w.drawn<=w'.drawn:=by
 have:=Z9J P s w
 rwa [h] at this
theorem Z20 {α:Type} {P:Program} {s:Sem α} {w w':World} {a:Halt} (h:s.run P w=.halt a w'):w.drawn<=w'.drawn:=by
 have:=Z9J P s w
 rwa [h] at this
theorem Z6L {α β:Type} {P:Program} {s:Sem α} {t:Sem β} {w w1 w2:World} {a:α} {b:β} (h:s.run P w=.ok a w1) (k:t.run P w1=.ok b w2):w.drawn<=w2.drawn:=Y03 (Z1f h) (Z1f k)
theorem Zj8 {α β:Type} {P:Program} {s:Sem α} {t:Sem β} {w w1 w2:World} {a:α} {b:Halt} (h:s.run P w=.ok a w1) (k:t.run P w1=.halt b w2):w.drawn<=w2.drawn:=Y03 (Z1f h) (Z20 k)
theorem Zfp {D:Nat} {α:Type} {o:Option α} {a:GStep} {f:α->GStep} (ha:X1r D (gW a)) (hf:∀ k,X1r D (gW (f k))):X1r D (gW (o.elim a f)):=by
 cases o with
 | none=>exact ha
 | some k=>exact hf k
theorem Z2Y (p:Program) (main:Bool) (fr:Frame) (callers:List Frame) (dying:Option Dying) (v:Value) (w:World):X1r w.drawn (gW (doReturn p main fr callers dying v w)):=by
 unfold doReturn
 repeat' first
  | exact Y0m _
  | trivial
  | split
theorem Z4B (fr:Frame) (a:List ByteArray) (m:String) (b:Bool) (w:World):X1r w.drawn (gW (dieOf fr a m b w)):=Y0m _
theorem Z37 (p:Program) (fr:Frame) (v:Value) (w:World):X1r w.drawn (gW (endPrinting p fr v w)):=by
 unfold endPrinting;simp only []
 split
 . exact Y0m _
 . trivial
theorem Z4u (p:Program) (fr:Frame) (callers:List Frame) (dying:Option Dying) (m:String) (w:World):X1r w.drawn (gW (endFatal p fr callers dying m w)):=by
 unfold endFatal;simp only []
 split
 . rename_i h;exact Z1f h
 . trivial
 . trivial
theorem Z8G (w:World) (fd:Nat) (t:ByteArray) (o:Outcome):X1r w.drawn (gW (endWith w fd t o)):=by
 unfold endWith;simp only []
 repeat' first
  | trivial
  | split
theorem Z8H (p:Program) (fr:Frame) (d:Dying) (f:Fatal) (w:World):X1r w.drawn (gW (writeOn p fr d f w)):=by
 unfold writeOn;simp only [Y3B]
 split
 . trivial
 . split
   . rename_i h;exact Z1f (Y3C h).1
   . rename_i h;exact Z20 (Y3C h).1
   . trivial
   . trivial
theorem Zfq (p:Program) (fr:Frame) (d:Dying) (w:World):X1r w.drawn (gW (die p fr d w)):=by
 unfold die;simp only [Y3B]
 repeat' first
  | exact Y0m _
  | trivial
  | exact Z8H _ _ _ _ _
  | exact Z8G _ _ _ _
  | exact Z1f (by assumption)
  | exact (Z37 _ _ _ _).mono (Z20 (by assumption))
  | rw [Z4e]
  | split
theorem Z53 (p:Program) (fr:Frame) (callers:List Frame) (dying:Option Dying) (d:Deferred) (w:World):X1r w.drawn (gW (callDeferred p fr callers dying d w)):=by
 unfold callDeferred;simp only [Y3B]
 repeat' first
  | exact Y0m _
  | trivial
  | exact Z1f (by assumption)
  | exact Z20 (by assumption)
  | exact (Z4u _ _ _ _ _ _).mono (Z20 (by assumption))
  | exact (Z4B _ _ _ _ _).mono (Z20 (by assumption))
  | rw [Z4e]
  | split
theorem Z9K (p:Program) (main:Bool) (fr:Frame) (callers:List Frame) (dying:Option Dying) (w:World):X1r w.drawn (gW (unwind p main fr callers dying w)):=by
 unfold unwind;simp only [Y3B]
 repeat' first
  | exact Y0m _
  | trivial
  | exact Z53 _ _ _ _ _ _
  | exact Z2Y _ _ _ _ _ _ _
  | exact Z37 _ _ _ _
  | exact Z1f (by assumption)
  | exact (Z2Y _ _ _ _ _ _ _).mono (Z1f (by assumption))
  | rw [Z4e]
  | split
theorem Zbb (p:Program) (fr:Frame) (callers:List Frame) (dying:Option Dying) (g:Nat) (w:World):X1r w.drawn (gW (early p fr callers dying g w)):=by
 unfold early;simp only []
 repeat' first
  | exact Y0m _
  | trivial
  | exact Z1f (by assumption)
  | (simp only [gW,X1r]; exact Z1f (by assumption))
  | rw [Z4e]
  | split
theorem Z4C (p:Program) (b:Bool) (fr:Frame) (callers:List Frame) (dying:Option Dying) (s:Sem Next) (w:World):X1r w.drawn (gW (stepG.apply p b fr callers dying s w)):=by
 unfold stepG.apply;simp only [Y3B];have hs:(if b=true then (s.run p w,s.events p w #[]) else (s.run p w,#[])).1=s.run p w:=by split<;>rfl
 generalize (if b=true then (s.run p w,s.events p w #[]) else (s.run p w,#[]))=x at hs ⊢;obtain⟨r,es⟩:=x;simp only at hs ⊢;subst hs
 repeat' first
  | exact Y0m _
  | trivial
  | exact Z1f (by assumption)
  | exact Z20 (by assumption)
  | exact (Z4u _ _ _ _ _ _).mono (Z20 (by assumption))
  | exact (Z4B _ _ _ _ _).mono (Z20 (by assumption))
  | exact (Z4B _ _ _ _ _).mono (Z1f (by assumption))
  | exact (Zbb _ _ _ _ _ _).mono (Z20 (by assumption))
  | rw [Z4e]
  | split
theorem ZdM (p:Program) (b:Bool) (fr:Frame) (callers:List Frame) (dying:Option Dying) (w:World):X1r w.drawn (gW (stepG.oper p b fr callers dying w)):=by
 unfold stepG.oper
 repeat' first
  | trivial
  | exact Z4C _ _ _ _ _ _ _
  | split
theorem ZdN (p:Program) (main b:Bool) (fr:Frame) (callers:List Frame) (dying:Option Dying) (w:World):X1r w.drawn (gW (stepG.exec p main b fr callers dying w)):=by
 unfold stepG.exec;simp only [Y3B]
 repeat' first
  | exact Y0m _
  | trivial
  | exact Z4C _ _ _ _ _ _ _
  | exact ZdM _ _ _ _ _ _
  | exact Z1f (by assumption)
  | exact Z20 (by assumption)
  | exact (Z4C _ _ _ _ _ _ _).mono (Z1f (by assumption))
  | exact (Z2Y _ _ _ _ _ _ _).mono (Z1f (by assumption))
  | rw [Z4e]
  | refine Zfp ?_ (fun _=>?_)
  | split
theorem Zbc (p:Program) (main b:Bool) (g:Goroutine) (w:World):X1r w.drawn (gW (stepG p main g w b)):=by
 unfold stepG
 repeat' first
  | exact Zfq _ _ _ _
  | exact ZdN _ _ _ _ _ _ _
  | exact Z9K _ _ _ _ _ _
  | split
theorem Z5v {p:Program} {rest:Rest} {gs:Array Goroutine} {i:Nat} {g:Goroutine} {cases:Array CommCase} {b:Bool} {shape:CommShape} {w:World}:X1r w.drawn (sW (communicate p rest gs i g cases b shape w).1):=by
 have hwait:∀ w',waitingAt rest cases w=some w'->w'.drawn=w.drawn:=by
  intro w' h;unfold waitingAt at h
  repeat' first
   | (cases h; done)
   | (cases h; rfl)
   | split at h
 unfold communicate;simp only []
 repeat' first
  | exact Y0m _
  | trivial
  | exact Z1f (by assumption)
  | (simp only [sW,X1r]; exact Z1f (by assumption))
  | (simp only [sW,X1r]; exact Y4o (hwait _ (by assumption)).symm)
  | (simp only [sW,X1r]; exact Z6L (by assumption) (by assumption))
  | (simp only [sW,X1r]; exact Zj8 (by assumption) (by assumption))
  | split
theorem Z7R (p:Program) (gs:Array Goroutine) (rest:Rest) (w:World):X1r w.drawn (sW (look p gs rest w)):=by
 unfold look;simp only []
 repeat' first
  | exact Y0m _
  | trivial
  | (simp only [sW,X1r]; exact Z1f (by assumption))
  | split
theorem Z8I {m:Machine} {op:TimerOp} {v:Value} {m':Machine} (h:timerOp m op=.ok (v,m')):m'.world.drawn=m.world.drawn:=by
 have hr:∀ (m:Machine) (k:Nat) (t:Timer) (a b:Nat),(retime m k t a b).2.world.drawn=m.world.drawn:=by
  intro m k t a b;unfold retime drain;simp only []
  repeat' first
   | rfl
   | split
 have ho:∀ (m':Machine) (a:Addr),timerOp.opened m a=some m'->m'.world.drawn=m.world.drawn:=by
  intro m' a h;unfold timerOp.opened at h
  repeat' first
   | (cases h; done)
   | (cases h; rfl)
   | split at h
 have hn:∀ (a:Addr) (f:Nat->Timer->Value×Machine) (D:Nat),(∀ k t,(f k t).2.world.drawn=D)->timerOp.named m a f=.ok (v,m')->m'.world.drawn=D:=by
  intro a f D hf h;unfold timerOp.named at h
  split at h
  . rename_i k _;have:=hf k (m.rest.timers.getD k default);injection h with h
    rw [h] at this;exact this
  . cases h
 unfold timerOp at h;simp only [] at h
 repeat' first
  | (cases h; done)
  | (cases h; rfl)
  | exact hn _ _ _ (fun k t=>hr _ _ _ _ _) h
  | (rename_i ho'; rw [<- ho _ _ ho']; exact hn _ _ _ (fun k t=>hr _ _ _ _ _) h)
  | split at h
theorem ZdO (p:Program) (m:Machine) (i:Nat) (b:Bool):X1r m.world.drawn (sW (runT p m i b).1):=by
 simp only [runT];generalize m.gs.swapAt! _ _=gg;have hs:=Zbc p (i == 0) b gg.1 m.world;generalize stepG p _ gg.1 m.world b=s at hs;cases s<;>simp only [gW] at hs ⊢
 all_goals first
  | exact hs
  | trivial
  | exact Z5v.mono hs
  | exact (Z7R _ _ _ _).mono hs
  | skip
 all_goals repeat' first
  | exact hs
  | trivial
  | (simp only [sW,X1r]; rename_i ht; exact Y03 hs (Y4o (Z8I ht).symm))
  | split
theorem Zbd (p:Program) (m:Machine) (k:Nat):X1r m.world.drawn (sW (serve p m k)):=by
 unfold serve;simp only []
 repeat' first
  | exact Y0m _
  | trivial
  | split
def mW:Move->Option World
 | .goroutine m _=>some m.world
 | .machine s _=>sW s
theorem Z4D (p:Program) (m:Machine):X1r m.world.drawn (mW (askOn p m)):=by
 have pick:∀ (D:Nat) (rs:List Nat) (m:Machine),D<=m.world.drawn->X1r D (mW (match (choose (.sched rs.length)).run p m.world with
  | .halt _ w => .machine (.ended (.stuck "sched" "") w)
  | .ok k world =>
    if rs.length<=1 then .goroutine { m with world } (rs.getD k 0) else
    match (choose (.extern "sched.slice" 65536)).run p world with
    | .halt _ w => .machine (.ended (.stuck "sched.slice" "") w)
    | .ok n world=>.goroutine { m with world,rest:={ m.rest with slice:=if n=0 then none else some (rs.getD k 0,n) } } (rs.getD k 0))):=by
  intro D rs m hD;refine X1r.mono hD ?_
  repeat' first
   | trivial
   | (simp only [mW,X1r]; exact Z1f (by assumption))
   | (simp only [mW,X1r]; exact Z6L (by assumption) (by assumption))
   | split
 unfold askOn;simp only []
 generalize hs:(if (due m.rest.timers m.world.os.mono).isEmpty=true then (pure 0:Sem Nat)
  else choose (.extern "timer.serve" ((due m.rest.timers m.world.os.mono).length + (if ((runnable m.gs m.world.os.mono).isEmpty && (ahead m false).isNone) = true then 0 else 1)))) = s0
 cases hr:s0.run p m.world with
 | halt h w=>trivial
 | ok k world =>
   simp only []
   split
   . exact (Zbd p { m with world } _).mono (Z1f hr)
   . split
     . split
       . exact show m.world.drawn<=world.drawn from Z1f hr
       . split
         . exact show m.world.drawn<=world.drawn from Z1f hr
         . split<;>trivial
     . split
       . exact pick _ _ { m with world } (Z1f hr)
       . split
         . trivial
         . exact pick _ _ { m with world:=_ } (Z6L hr (by assumption))
         . simp only [mW, sW, X1r, Machine.advanceTo];exact Z6L hr (by assumption)
         . rename_i w2 h2;exact pick _ _ (Machine.advanceTo { m with world:=w2 } _) (show m.world.drawn<=w2.drawn from Z6L hr h2)
theorem ask_drawn' (p:Program) (m:Machine):X1r m.world.drawn (mW (ask p m)):=by
 unfold ask
 split
 . split
   . trivial
   . rename_i w h;have hl:=Z7R p m.gs m.rest w
     split
     . rename_i m2 h2;rw [h2] at hl;exact (Z4D p m2).mono (Y03 (Z1f h) hl)
     . exact hl.mono (Z1f h)
   . rename_i h;exact (Z4D p { m with world:=_ }).mono (Z1f h)
 . exact Z4D p m
theorem ZdP (p:Program) (m:Machine):X1r m.world.drawn (mW (move p m)):=by
 unfold move
 repeat' first
  | exact Y0m _
  | trivial
  | exact ask_drawn' p m
  | exact ask_drawn' p { m with rest:=_ }
  | split
theorem ZdQ (p:Program) (m:Machine):X1r m.world.drawn (sW (step p m)):=by
 have h:=ZdP p m;unfold step stepT;cases hm:move p m with
 | goroutine m2 i =>
   rw [hm] at h;exact (ZdO p m2 i true).mono h
 | machine s ops =>
   rw [hm] at h;exact h
theorem Zbe {P:Program} {m m':Machine} (h:Steps P m m'):m.world.drawn<=m'.world.drawn:=by
 obtain⟨n,hn⟩:=h
 induction n generalizing m with
 | zero=>rw [runN] at hn; cases hn; exact Y0m _
 | succ n ih =>
   rw [runN] at hn;have hs:=ZdQ P m
   split at hn
   . rename_i m1 h1;rw [h1] at hs;exact Y03 hs (ih hn)
   . rename_i e he;cases hst:step P m with
     | next m1=>exact absurd hst (he m1)
     | ended o w=>rw [hst] at hn; cases hn
theorem Zbf {P:Program} {f:FuncId} {args:Array Value} {w:World} {R:Ending->World->Prop} (h:Calls P f args w R):Calls P f args w fun e w'=>R e w'/\∀ v,e=.returned v->w.drawn<=w'.drawn:=by
 intro cs;obtain⟨e,w',fr,hR,hc,hf,hl⟩:=h cs;refine⟨e,w',fr,⟨hR,?_⟩,hc,hf,hl⟩;rintro v rfl;exact Zbe (m:=lone (Frame.enter P f args .normal) cs w) (m':=lone fr cs w') hc
end
section
open Go.RowKit
attribute [local irreducible] aw Xk dK
theorem Z4g {size n:Nat} {e:Env} {h:X1} {a:Operand} {l:List PV} (ha:ev e a=some (.cp l)) (hl:l.length=size):X3 (.load true size a) e h n=some (.agg l,h):=by
 subst hl;simp [X3,ha,X1a]
theorem Zc {α:Type} {enc:α->List PV} (hp:∀ x,X6 (enc x)) (xs:List α):X2 (xs.map enc):=Z33 _ _ fun x _=>hp x
theorem Z54 {α:Type} {p:α->Bool} {xs:List α} {i:Nat} (hi:i<xs.length) (h:(xs.take i).any p=false) (hx:p xs[i]=false):(xs.take (i+1)).any p=false:=by
 rw [YY,Y0c hi,Y2Y,h];simp [hx]
def X2G {α:Type} (p:α->Bool):List α->Int
 | [] => -1
 | x :: xs=>if p x then 0 else (if X2G p xs<0 then -1 else X2G p xs+1)
theorem Z2D {α:Type} {p:α->Bool}:∀ {xs:List α},xs.any p=false->X2G p xs = -1
 | [],_=>rfl
 | x :: xs, h => by
   rw [Y3j,Y3h] at h;simp [X2G,h.1,Z2D h.2]
theorem Z5w {α:Type} {p:α->Bool}:∀ {xs:List α} {i:Nat} (hi:i<xs.length),(xs.take i).any p=false->p xs[i]=true->X2G p xs=(i:Int)
 | x :: xs,0,_,_,hx=>by simp only [Y3O] at hx; simp [X2G,hx]
 | x :: xs, i + 1, hi, h, hx => by
   rw [List.take_succ_cons,Y3j,Y3h] at h;have:=Z5w (p:=p) (xs:=xs) (i:=i) (by simpa using hi) h.2 (by simpa using hx);simp only [X2G,h.1,this];have h3:¬ ((i:Int)<0):=by omega
   simp [h3]
theorem Z6M {α:Type} {p:α->Bool}:∀ {xs:List α},xs.any p=true->0<=X2G p xs
 | [],h=>by cases h
 | x :: xs, h => by
   rw [Y3j,YP] at h;unfold X2G;by_cases hx:p x=true
   . rw [Y5 hx]; exact Int.le_refl 0
   . have := Z6M (h.resolve_left hx);rw [Y6 hx,Y6 (by omega)];omega
theorem Z6g {α:Type} {p:α->Bool} {xs:List α}:decide (0<=X2G p xs)=xs.any p:=by
 cases h:xs.any p
 . rw [Z2D h]; rfl
 . exact Yw (Z6M h)
theorem Z6N {α:Type} (xs:List α) (enc:α->List PV) (fl:Bool) (g:Nat) (caps:List PV) (p:α->Bool) (hl:∀ x,(enc x).length=2) (hp:∀ x,X6 (enc x)) (hc:X6 caps) (hg:∀ x∈xs,Xa Tryz.prog g (.agg (enc x) :: caps) (· = .val (.bool (p x)))) :
 Xa Tryz.prog 75 [.vec (xs.map enc) fl,.fn g caps] (· = .val (.int .i64 (X2G p xs))):=by
 refine Yp ok75 fun C hC=>?_;refine Z4t (k:=0) rfl fun hmax=>?_;have hnl:(xs.map enc).length=xs.length:=by simp
 have hlm:xs.length<=Xd:=by simpa using hmax
 refine go ?_;refine Z49 (fun i=>i<=xs.length/\(xs.take i).any p=false) (fun i=>xs.length-i) (fun i => [(0,.vec (xs.map enc) fl),(1,.fn g caps),(7,.val (.int .i64 (xs.length:Int))),(8,Yv i)]) 0 ⟨Y0l _,rfl⟩ ⟨rfl,rfl,by rw [<- hnl]; rfl,rfl,Yt⟩ ?_;rintro i ⟨hi,hno⟩;have hinc:IntKind.i64.wrap ((i:Int)+1)=((i+1:Nat):Int):=Y0v _ ⟨by omega,by simp only [Xd] at hlm; omega⟩;(refine go ?_;repeat' (apply B<;>intro hb<;>try cases hb))
 . have hil : i < xs.length := by simpa using hb
   refine Qo (Zo (xs:=xs) rfl rfl i rfl hil (hl _)) ?_;refine Qo (Z4g rfl (hl _)) ?_;refine Qe (hg _ (Y0j hil)) ⟨hp _,hc⟩ ?_;refine Z1L ?_;refine Z5s rfl (fun hx=>?_) (fun hx=>?_)
   . refine go ?_;exact Z8 rfl Yt (by rw [Z5w hil hno hx])
   . (refine go ?_;repeat' (apply B<;>intro hb<;>try cases hb));exact⟨i+1,⟨by omega,Z54 hil hno hx⟩,by omega,rfl,rfl,⟨rfl,rfl,rfl,by show some _=some _; rw [hinc],Yt⟩⟩
 . have hil : i = xs.length := by simp at hb; omega
   subst hil;rw [Y0q] at hno;exact Z8 rfl Yt (by rw [Z2D hno]; rfl)
theorem Z1v {α:Type} (xs:List α) (enc:α->List PV) (fl:Bool) (g:Nat) (caps:List PV) (p:α->Bool) (hl:∀ x,(enc x).length=2) (hp:∀ x,X6 (enc x)) (hc:X6 caps) (hg:∀ x∈xs,Xa Tryz.prog g (.agg (enc x) :: caps) (· = .val (.bool (p x)))) :
 Xa Tryz.prog 33 [.vec (xs.map enc) fl,.fn g caps] (· = .val (.bool (xs.any p))):=by
 refine Yp ok33 fun C hC=>?_;refine go ?_;refine Qe (Z6N xs enc fl g caps p hl hp hc hg) ⟨Zc hp xs,hc,Yt⟩ ?_;refine Qo (Z7 rfl (Z6g (p:=p) (xs:=xs))) ?_;(refine go ?_;repeat' (apply B<;>intro hb<;>try cases hb))
 all_goals exact Z8 rfl Yt (by rw [hb])
end
section
open Go.RowKit
section
variable {P:Program} {C:Ctx} {e:Env} {h:X1} {F:XF} {φ:XD} {a:Act} {w:World}
theorem St'.renF {n:Nat} (s:St' C (fun i=>n<=i) e h F φ a w) (ρ:Nat->Nat) {n':Nat} {e':Env} {h':X1} (he:∀ k p,e' k=some p->∃ p0,e k=some p0/\X1x ρ (fun i=>i<n') p0 p) (hh:∀ k b,h' k=some b->k<n'/\∃ b0,h (ρ k)=some b0/\Xr ρ (fun i=>i<n') b0 b)
 (hinj:∀ k k' b b',h' k=some b->h' k'=some b'->ρ k=ρ k'->k=k') {m:Nat} (hdom:C.dom m) (hm:m<=n') (hρ:∀ i,i<m->ρ i=i):∃ φ',St' C (fun i=>n'<=i) e' h' F φ' a w:=by
 let φ':XD:=fun i=>if i<n' then φ (ρ i) else none
 have hφ:∀ i x,i<n'->φ (ρ i)=some x->φ' i=some x:=fun i x hi hx=>by simp only [φ',hi,Y1Z]; exact hx
 refine⟨φ',{ nt:=s.nt,glob:=s.glob,marks:=s.marks,loc0:=fun i x hx=>?_,free:=fun i hi=>?_,env:=fun k p hp=>?_,froz:=s.froz,ext:=s.ext,old:=s.old,os:=s.os,tape:=s.tape,output:=s.output,size:=s.size,kept:=s.kept,live:=fun i b hb=>?_,sep:=?_ }⟩
 . have : ¬ i < n' := by omega
   simp only [φ',this,Y2g]
 . obtain ⟨p0, h0, hr⟩ := he _ _ hp;exact⟨(s.env k p0 h0).1,hr.rep hφ (s.env k p0 h0).2⟩
 . by_cases him : i < m
   . exact hφ i x (by omega) (by rw [hρ i him]; exact s.loc0 i x hx)
   . rw [hdom i (by omega)] at hx; cases hx
 . obtain ⟨hi, b0, h0, hr⟩ := hh _ _ hb;obtain⟨loc,h1,h2,h3⟩:=s.live _ b0 h0;refine⟨loc,hφ i loc hi h1,?_,h3⟩;cases hr with
   | same hp=>exact h2.names hp
   | gen _ hz he hl hcl hrp =>
     have h2:=h2.cellsB (by rw [he]; exact hz);refine .inl ⟨by rw [<- he]; exact h2.esz,h2.pos,by rw [<- hl]; exact h2.len,h2.cap,h2.max,fun c hc=>?_,fun hc=>?_⟩
     . obtain ⟨k, hk, rfl⟩ := Y15 hc;have e1:b.elems[k]=b.elems.getD k []:=by simp [Y0b,hk]
       rw [e1,<- hcl k hk]
       exact h2.el _ (by have hk' : k < b0.elems.length := by rw [hl]; exact hk
                         simp [Y0b,hk'])
     . obtain ⟨x, hx, hs, cells, t, hg, hsz, hrep⟩ := h2.room hc;refine⟨x,hx,hs,cells,t,hg,hsz,fun i j hi hj=>⟨(hrep i j hi hj).1,?_⟩⟩;exact (hrp i j (by rw [<- hl,h2.len]; exact hi) (by rw [<- he,h2.esz]; exact hj)).rep hφ (hrep i j hi hj).2
 . intro i j bi bj li lj k hi hj hli hlj hki hkj;obtain⟨hin,b0,h0,_⟩:=hh _ _ hi;obtain⟨hjn,c0,g0,_⟩:=hh _ _ hj;have hli':φ (ρ i)=some li:=by simpa only [φ',show i<n' from hin,Y1Z] using hli
   have hlj':φ (ρ j)=some lj:=by simpa only [φ',show j<n' from hjn,Y1Z] using hlj
   exact hinj _ _ _ _ hi hj (s.sep _ _ b0 c0 li lj k h0 g0 hli' hlj' hki hkj)
theorem Zho (ρ:Nat->Nat) {n n':Nat} {e':Env} {h':X1} (he:∀ k p,e' k=some p->∃ p0,e k=some p0/\X1x ρ (fun i=>i<n') p0 p) (hh:∀ k b,h' k=some b->k<n'/\∃ b0,h (ρ k)=some b0/\Xr ρ (fun i=>i<n') b0 b)
 (hinj:∀ k k' b b',h' k=some b->h' k'=some b'->ρ k=ρ k'->k=k') {m:Nat} (hdom:C.dom m) (hm:m<=n') (hρ:∀ i,i<m->ρ i=i):Sub C n e h n' e' h':=by
 rintro a w ⟨F,φ,s⟩;obtain⟨φ',s'⟩:=s.renF ρ he hh hinj hdom hm hρ;exact⟨F,φ',s'⟩
def X1K (h:X1) (D n:Nat) (f:Nat->PV) (K:Nat) (g:Nat->Bx):X1:=fun k =>
 bif Nat.beq k D then some ⟨1,(List.range 64).map fun j => [f j]⟩ else bif Nat.ble n k&&Nat.blt k (n+K) then some (g (k-n)) else h k
def X1k (n i:Nat) (j:Nat):PV:=if j<i then .own (n+j) else .vec [] true
theorem Z2N (h:X1) (D n:Nat) (f:Nat->PV) (K:Nat) (g:Nat->Bx):X1K h D n f K g D=some ⟨1,(List.range 64).map fun j => [f j]⟩:=by
 unfold X1K;rw [show Nat.beq D D=true from Y3W D]; rfl
theorem Z2t (h:X1) {D n:Nat} (hD:D<n) (f:Nat->PV) {K:Nat} (g:Nat->Bx) {j:Nat} (hj:j<K):X1K h D n f K g (n+j)=some (g j):=by
 unfold X1K;have e1:Nat.beq (n+j) D=false:=YB.2 fun hb=>by have:=YJ hb; omega
 have e2:Nat.ble n (n+j)=true:=Eq.mpr Nat.ble_eq (by omega);have e3:Nat.blt (n+j) (n+K)=true:=Eq.mpr Y4M (by omega);rw [e1,e2,e3];simp
theorem Z2u (h:X1) {D n:Nat} (f:Nat->PV) {K:Nat} (g:Nat->Bx) {k:Nat} (hk:k≠D) (hn:k<n \/ n+K<=k):X1K h D n f K g k=h k:=by
 unfold X1K;have e1:Nat.beq k D=false:=YB.2 fun hb=>hk (YJ hb);rw [e1];rcases hn with hn|hn
 . have e2 : Nat.ble n k = false := YB.2 fun hb => by have := Y0 hb; omega
   rw [e2]; rfl
 . have e2 : Nat.blt k (n + K) = false := YB.2 fun hb => by have := Eq.mp Y4M hb; omega
   rw [e2]; simp
theorem Z7T {h:X1} {D n:Nat} (hD:D<n) {f:Nat->PV} {K:Nat} {g:Nat->Bx} {k:Nat} {b:Bx} (hk:X1K h D n f K g k=some b):(k=D/\b=⟨1,(List.range 64).map fun j => [f j]⟩) \/ (∃ j,j<K/\k=n+j/\b=g j) \/ (k≠D/\(k<n \/ n+K<=k)/\h k=some b):=by
 by_cases h1:k=D
 . subst h1; rw [Z2N] at hk; cases hk; exact .inl ⟨rfl,rfl⟩
 . by_cases h2 : n <= k /\ k < n + K
   . obtain ⟨j, rfl⟩ : ∃ j, k = n + j := ⟨k - n, by omega⟩;rw [Z2t h hD f g (by omega)] at hk;cases hk;exact .inr (.inl ⟨j,by omega,rfl,rfl⟩)
   . have h3 : k < n \/ n + K <= k := by omega
     rw [Z2u h f g h1 h3] at hk;exact .inr (.inr ⟨h1,h3,hk⟩)
theorem Z55 {f:Nat->List PV} {i:Nat} (r:List PV) (hi:i<64):((List.range 64).map f).set i r=(List.range 64).map fun j=>if j=i then r else f j:=by
 apply List.ext_getElem?;intro j;rw [YW,Y0f,Y2D,Y0y,Y0y];by_cases hj:j<64
 . rw [Y3p hj];by_cases e:i=j
   . subst e; simp [hi]
   . rw [Y6 e]; simp [Y25 e]
 . rw [Y2B (by simpa using hj)];by_cases e:i=j
   . subst e; exact absurd hi hj
   . rw [Y6 e]; rfl
theorem Z1m {f:Nat->List PV} {i:Nat} (hi:i<64):((List.range 64).map f).getD i []=f i:=by
 rw [Y0b,Y0y,Y3p hi]; rfl
theorem Zfr {h:X1} {D n i:Nat} (hD:D<n) (hi:i<64) (esz:Nat) :
 ((X1K h D n (X1k n i) i (fun _=>⟨esz,[]⟩)).upd D ⟨1,((List.range 64).map fun j => [X1k n i j]).set i ((((List.range 64).map fun j => [X1k n i j]).getD i []).set 0 (.own (n+i)))⟩).upd (n+i) ⟨esz,[]⟩=X1K h D n (X1k n (i+1)) (i+1) (fun _=>⟨esz,[]⟩):=by
 funext k;rw [Z1m hi,Z55 _ hi];by_cases h1:k=n+i
 . subst h1;rw [X1.upd_same,Z2t _ hD _ _ (Y2L i)]
 . rw [X1.upd_ne _ _ h1];by_cases h2:k=D
   . subst h2;rw [X1.upd_same,Z2N];refine congrArg (fun l=>some (Bx.mk 1 l)) (Y2p fun j hj=>?_);unfold X1k;by_cases hji:j=i
     . subst hji; rw [Y5 rfl,Y5 (Y2L _)]; rfl
     . rw [Y6 hji];by_cases hlt:j<i
       . rw [Y5 hlt,Y5 (by omega)]
       . rw [Y6 hlt,Y6 (by omega)]
   . rw [X1.upd_ne _ _ h2];by_cases h3:n<=k/\k<n+i
     . obtain ⟨j, rfl⟩ : ∃ j, k = n + j := ⟨k - n, by omega⟩;rw [Z2t _ hD _ _ (by omega:j<i),Z2t _ hD _ _ (by omega:j<i+1)]
     . rw [Z2u _ _ _ h2 (by omega),Z2u _ _ _ h2 (by omega)]
theorem ZdT {n D:Nat} (hD:D<n) (hb:h D=some ⟨1,List.replicate 64 [.vec [] true]⟩) (esz:Nat) (hp:0<esz):Sub C n e h (n+64) e (X1K h D n (fun j=>.own (n+j)) 64 (fun _=>⟨esz,[]⟩)):=by
 have key:∀ i,i<=64->Sub C n e h (n+i) e (X1K h D n (X1k n i) i (fun _=>⟨esz,[]⟩)):=by
  intro i
  induction i with
  | zero =>
    intro _;have e0:X1K h D n (X1k n 0) 0 (fun _=>⟨esz,[]⟩)=h:=by
     funext k;by_cases h2:k=D
     . subst h2;rw [Z2N,hb];have:∀ l:List Nat,(l.map fun j => [X1k n 0 j])=List.replicate l.length [PV.vec [] true]:=by
        intro l
        induction l with
        | nil=>rfl
        | cons x l ih=>rw [Y20,ih]; rfl
       rw [this,Y2D]
     . exact Z2u _ _ _ h2 (by omega)
    rw [e0];exact Z8z
  | succ i ih =>
    intro hi;have hi':i<64:=by omega
    refine Z6x (ih (by omega)) ?_;have e1:=Zfr (h:=h) hD hi' esz;rw [<- e1];refine Z6F (id:=D) (b:=⟨1,(List.range 64).map fun j => [X1k n i j]⟩) (i0:=i) (j0:=0) (Z2N _ _ _ _ _ _) (by simpa using hi') (by rw [Z1m hi']; exact Y1K) ?_ esz hp (by omega);rw [Z1m hi'];show (X1k n i i)=_;unfold X1k;rw [Y6 (Nat.lt_irrefl i)]
 have e2:X1K h D n (X1k n 64) 64 (fun _=>⟨esz,[]⟩)=X1K h D n (fun j=>.own (n+j)) 64 (fun _=>⟨esz,[]⟩):=by
  unfold X1K;have:((List.range 64).map fun j => [X1k n 64 j])=(List.range 64).map fun j => [PV.own (n+j)]:=Y2p fun j hj=>by
   unfold X1k;rw [Y5 (Y1t.1 hj)]
  rw [this]
 rw [<- e2];exact key 64 (Y0m _)
end
noncomputable def jun (l:List Pr) (r:Nat):Nat:=bel l r ||| 2 ^ r
theorem Z6Q {l:List Pr} (hl:XL l) (r b:Nat):(jun l r).testBit b=true↔Up l r b \/ b=r:=by
 unfold jun;rw [Y00,YP,Zfj hl,YK];simp only [Y0n];exact⟨fun h=>h.imp id Eq.symm,fun h=>h.imp id Eq.symm⟩
theorem ZcG (l:List Pr) {r:Nat} (hr:r<64):jun l r<18446744073709551616:=Z1X (Zfk l r) (ZV hr)
def X2q (l:List Pr) (s:Nat):Nat:=l.foldl (fun n x=>if s.testBit x.1=true then n ||| 2 ^ x.2 else n) s
theorem Z7U (s b:Nat):∀ (l:List Pr) (n:Nat),(l.foldl (fun n x=>if s.testBit x.1=true then n ||| 2 ^ x.2 else n) n).testBit b=true↔n.testBit b=true \/ ∃ x∈l,s.testBit x.1=true/\x.2=b
 | [],n=>by simp
 | x :: l, n => by
   rw [Y19,Z7U s b l];by_cases hx:s.testBit x.1=true
   . rw [Y5 hx, Y00, YP, YK];simp only [Y0n];constructor
     . rintro ((h | h) | ⟨y, hy, h⟩)
       . exact .inl h
       . exact .inr ⟨x,Y0t ..,hx,h⟩
       . exact .inr ⟨y,YD _ hy,h⟩
     . rintro (h | ⟨y, hy, h1, h2⟩)
       . exact .inl (.inl h)
       . rcases Y9.1 hy with rfl | hy
         . exact .inl (.inr h2)
         . exact .inr ⟨y,hy,h1,h2⟩
   . rw [Y6 hx];constructor
     . rintro (h | ⟨y, hy, h⟩)
       . exact .inl h
       . exact .inr ⟨y,YD _ hy,h⟩
     . rintro (h | ⟨y, hy, h1, h2⟩)
       . exact .inl h
       . rcases Y9.1 hy with rfl | hy
         . exact absurd h1 hx
         . exact .inr ⟨y,hy,h1,h2⟩
theorem Z57 (l:List Pr) (s b:Nat):(X2q l s).testBit b=true↔s.testBit b=true \/ ∃ x∈l,s.testBit x.1=true/\x.2=b:=Z7U s b l s
theorem ZdW {l:List Pr} {i:Nat} (hi:i<l.length) (s n:Nat):(l.take (i+1)).foldl (fun n x=>if s.testBit x.1=true then n ||| 2 ^ x.2 else n) n=if s.testBit l[i].1=true then (l.take i).foldl (fun n x=>if s.testBit x.1=true then n ||| 2 ^ x.2 else n) n ||| 2 ^ l[i].2 else (l.take i).foldl (fun n x=>if s.testBit x.1=true then n ||| 2 ^ x.2 else n) n:=by
 have e:l.take (i+1)=l.take i ++ [l[i]]:=by rw [YY,Y0c hi]; rfl
 rw [e,Y1u]; rfl
theorem Z9P {l:List Pr} (hl:XL l) (s:Nat):∀ (n:Nat),n<18446744073709551616->l.foldl (fun n x=>if s.testBit x.1=true then n ||| 2 ^ x.2 else n) n<18446744073709551616:=by
 induction l with
 | nil=>exact fun n hn=>hn
 | cons x l ih =>
   intro n hn;rw [Y19];refine ih (fun p hp=>hl p (YD _ hp)) _ ?_
   split
   . exact Z1X hn (ZV (hl x (Y0t ..)).2)
   . exact hn
theorem Zhw {l:List Pr} (hl:XL l) {s:Nat} (hs:s<18446744073709551616):X2q l s<18446744073709551616:=Z9P hl s s hs
structure X2Q (l:List Pr) (r s:Nat):Prop where
 lt:s<18446744073709551616
 self:s.testBit r=true
 sound:∀ b,s.testBit b=true->Up l r b \/ b=r
theorem X2Q.init {l:List Pr} {r:Nat} (hr:r<64):X2Q l r (2 ^ r):=⟨ZV hr,Y2P,fun b hb=>by rw [YK] at hb; exact .inr (Y0u hb).symm⟩
theorem X2Q.step {l:List Pr} (hl:XL l) {r s:Nat} (h:X2Q l r s):X2Q l r (X2q l s):=by
 refine⟨Zhw hl h.lt,(Z57 l s r).2 (.inl h.self),fun b hb=>?_⟩;rcases (Z57 l s b).1 hb with hb|⟨x,hx,h1,rfl⟩
 . exact h.sound b hb
 . rcases h.sound _ h1 with h2 | h2
   . exact .inl (.more h2 hx)
   . refine .inl (.one ?_);rw [<- h2]; exact hx
theorem X2Q.done {l:List Pr} (hl:XL l) {r s:Nat} (hr:r<64) (h:X2Q l r s) (he:X2q l s=s):s=jun l r:=by
 refine X5T h.lt (ZcG l hr) fun b hb=>?_;rw [YO,Z6Q hl];refine⟨h.sound b,?_⟩;have hcl:∀ a b,s.testBit a=true->(a,b)∈l->s.testBit b=true:=fun a b ha hab=>by
  rw [<- he];exact (Z57 l s b).2 (.inr ⟨(a,b),hab,ha,rfl⟩)
 rintro (hu|rfl)
 . induction hu with
   | one k=>exact hcl _ _ h.self k
   | more _ k ih=>exact hcl _ _ (ih (hl _ k).1) k
 . exact h.self
theorem Zbm (l:List Pr) (s:Nat) (h:X2q l s≠s):s<X2q l s:=by
 have hle:s<=X2q l s:=by
  have e:s ||| X2q l s=X2q l s:=by
   apply YF;intro i;rw [Y00];cases hi:s.testBit i with
   | true=>rw [(Z57 l s i).2 (.inl hi)]; rfl
   | false=>rw [Y1G]
  rw [<- e];exact YZ
 omega
noncomputable def X2T (l:List Pr) (s k:Nat):Nat:=((List.range k).filter fun i=>s.testBit i).foldl (fun o r=>if 1<=r then o ||| jun l r else o) 0
noncomputable def clo (l:List Pr) (s:Nat):Nat:=X2T l s 64
theorem Zbn (l:List Pr) (s:Nat):clo l s=(mem s).foldl (fun o r=>if 1<=r then o ||| jun l r else o) 0:=rfl
theorem Z7V (l:List Pr) (s k:Nat):X2T l s (k+1)=if s.testBit k=true/\1<=k then X2T l s k ||| jun l k else X2T l s k:=by
 unfold X2T;rw [Y40,Y2d,Y1u];by_cases h:s.testBit k=true
 . rw [Y4Q (by simpa using h)];by_cases h1:1<=k
   . simp [h,h1]
   . simp [h,h1]
 . rw [Y4R (by simpa using h)];simp [h]
theorem Zfy (l:List Pr) (s:Nat):X2T l s 1=0:=by
 rw [Z7V,Y6 (by omega)]; rfl
theorem Zbo (l:List Pr):∀ (rs:List Nat) (o:Nat),(∀ r∈rs,r<64)->o<18446744073709551616->rs.foldl (fun o r=>if 1<=r then o ||| jun l r else o) o<18446744073709551616
 | [],o,_,ho=>ho
 | r :: rs, o, h, ho => by
   rw [Y19];refine Zbo l rs _ (fun x hx=>h x (YD _ hx)) ?_
   split
   . exact Z1X ho (ZcG l (h r (Y0t ..)))
   . exact ho
theorem ZcH (l:List Pr) (s:Nat) {k:Nat} (hk:k<=64):X2T l s k<18446744073709551616:=Zbo l _ 0 (fun r hr=>by have:=Y1t.1 (Y18.1 hr).1;omega) (by decide)
theorem Z7W (l:List Pr) (s:Nat):clo l s<18446744073709551616:=ZcH l s (Y0m _)
theorem ZcI (l:List Pr) (b:Nat):∀ (rs:List Nat) (o:Nat),(rs.foldl (fun o r=>if 1<=r then o ||| jun l r else o) o).testBit b=true↔o.testBit b=true \/ ∃ r∈rs,1<=r/\(jun l r).testBit b=true
 | [],o=>by simp
 | r :: rs, o => by
   rw [Y19,ZcI l b rs];by_cases h1:1<=r
   . rw [Y5 h1, Y00, YP];constructor
     . rintro ((h | h) | ⟨x, hx, h⟩)
       . exact .inl h
       . exact .inr ⟨r,Y0t ..,h1,h⟩
       . exact .inr ⟨x,YD _ hx,h⟩
     . rintro (h | ⟨x, hx, h2, h3⟩)
       . exact .inl (.inl h)
       . rcases Y9.1 hx with rfl | hx
         . exact .inl (.inr h3)
         . exact .inr ⟨x,hx,h2,h3⟩
   . rw [Y6 h1];constructor
     . rintro (h | ⟨x, hx, h⟩)
       . exact .inl h
       . exact .inr ⟨x,YD _ hx,h⟩
     . rintro (h | ⟨x, hx, h2, h3⟩)
       . exact .inl h
       . rcases Y9.1 hx with rfl | hx
         . exact absurd h2 h1
         . exact .inr ⟨x,hx,h2,h3⟩
theorem Zfz {l:List Pr} (s b:Nat) (hs:s<18446744073709551616):(clo l s).testBit b=true↔∃ r,s.testBit r=true/\1<=r/\(jun l r).testBit b=true:=by
 rw [Zbn,ZcI];constructor
 . rintro (h | ⟨r, hr, h⟩)
   . simp at h
   . exact⟨r,(Z15 hs).1 hr,h⟩
 . rintro ⟨r, hr, h⟩;exact .inr ⟨r,(Z15 hs).2 hr,h⟩
structure X3X (l:List Pr):Prop where
 asc:l.Pairwise fun p q=>p.1<q.1 \/ p.1=q.1/\p.2<q.2
 role:∀ p∈l,1<=p.1/\p.1<=6/\1<=p.2/\p.2<=6/\p.1≠p.2
 acy:Acy l
theorem X3X.small {l:List Pr} (h:X3X l):XL l:=fun p hp=>by have:=h.role p hp; omega
end
section
open Go.RowKit
attribute [local irreducible] aw Xk dK
abbrev Cu:=Nat×Nat
def cuC (c:Cu):List PV := [.vec (X5 (X7 c.1)) false,.vec (X5 (X7 c.2)) false]
def cuP (c:Cu):PV:=.agg (cuC c)
def XA (c:Cu):Prop:=c.1<18446744073709551616/\c.2<18446744073709551616
theorem Zi (c:Cu):X6 (cuC c):=⟨Z4 _,Z4 _,Yt⟩
theorem Zx (c:Cu):(cuP c).pure:=Zi c
theorem Zje (c:Cu):(cuC c).length=2:=rfl
def emC (c:Cu):Bool:=decide (c.1 &&& c.2≠0)
def hoC (c:Cu) (s:Nat):Bool:=decide (c.1 ||| s=s) && !decide (c.2 &&& s≠0)
def soC (l:List Cu) (s:Nat):Bool:=l.any fun c=>hoC c s
def wiC (a b:Cu):Bool:=emC a||(decide (b.1 ||| a.1=a.1)&&decide (b.2 ||| a.2=a.2))
def X16 (a b:Cu):Cu:=(a.1 ||| b.1,a.2 ||| b.2)
def eqC (a b:Cu):Bool:=decide (a.1=b.1)&&decide (a.2=b.2)
theorem Zbs (a b:Cu):eqC a b=true↔a=b:=by
 obtain⟨a1,a2⟩:=a;obtain⟨b1,b2⟩:=b;simp [eqC,Y2T]
theorem Z1k (c:Cu) (hc:XA c):Xa Tryz.prog 67 [cuP c] (· = .val (.bool (emC c))):=by
 refine Yp ok67 fun C hC=>?_;refine Zq ?_;refine Za ?_;refine Z5 rfl rfl rfl ?_;refine go ?_;refine Qe (Z4c c.1 c.2 hc.1 hc.2) ⟨Z2 _,Z2 _,Yt⟩ ?_;(refine go ?_;repeat' (apply B<;>intro hb<;>try cases hb))
 all_goals exact Z8 rfl Yt (XZ hb.symm)
theorem Z4F (c:Cu) (s:Nat) (hc:XA c) (hs:s<18446744073709551616):Xa Tryz.prog 105 [cuP c,XH s] (· = .val (.bool (hoC c s))):=by
 refine Yp ok105 fun C hC=>?_;refine Zq ?_;refine Za ?_;refine Z5 rfl rfl rfl ?_;refine Z5 rfl rfl rfl ?_;refine go ?_;refine Qe (Z1P c.1 s hc.1 hs) ⟨Z2 _,Z2 _,Yt⟩ ?_;unfold hoC;cases hd:decide (c.1 ||| s=s)
 . refine go ?_;exact Z8 rfl Yt rfl
 . refine go ?_;refine Qe (Z4c c.2 s hc.2 hs) ⟨Z2 _,Z2 _,Yt⟩ ?_;(refine go ?_;repeat' (apply B<;>intro hb<;>try cases hb))
   all_goals exact Z8 rfl Yt (XZ (by simp_all))
theorem Zbt (c:Cu) (s:Nat) (hc:XA c) (hs:s<18446744073709551616):Xa Tryz.prog 106 [cuP c,.cp [.vec (X5 (X7 s)) false]] (· = .val (.bool (hoC c s))):=by
 refine Yp ok106 fun C hC=>?_;refine Zq ?_;refine Za ?_;refine Z5 rfl rfl rfl ?_;refine go ?_;refine Qe (Z4F c s hc hs) ⟨Zi _,Z2 _,Yt⟩ ?_;(refine go ?_;repeat' (apply B<;>intro hb<;>try cases hb))
 all_goals exact Z8 rfl Yt (XZ (by simp [hb]))
theorem Z5x (l:List Cu) (fl:Bool) (s:Nat) (hl:∀ c∈l,XA c) (hs:s<18446744073709551616):Xa Tryz.prog 46 [.vec (l.map cuC) fl,XH s] (· = .val (.bool (soC l s))):=by
 refine Yp ok46 fun C hC=>?_;refine Zq ?_;refine Za ?_;refine Z5 rfl rfl rfl ?_;refine go ?_;refine Qe (Z1v l cuC fl _ [.cp [.vec (X5 (X7 s)) false]] (fun c=>hoC c s) Zje Zi ⟨Z2 s,Yt⟩ fun c hc=>Zbt c s (hl c hc) hs) ⟨Zc Zi l,⟨Z2 s,Yt⟩,Yt⟩ ?_;(refine go ?_;repeat' (apply B<;>intro hb<;>try cases hb))
 all_goals exact Z8 rfl Yt (XZ hb.symm)
theorem Z9S (a b:Cu) (ha:XA a) (hb:XA b):Xa Tryz.prog 206 [cuP a,cuP b] (· = .val (.bool (wiC a b))):=by
 refine Yp ok206 fun C hC=>?_;refine Zq ?_;refine Za ?_;refine Z5 rfl rfl rfl ?_;refine Z5 rfl rfl rfl ?_;refine go ?_;refine Qe (Z1k a ha) ⟨Zi _,Yt⟩ ?_;unfold wiC;cases he:emC a
 . refine go ?_;refine Qe (Z1P b.1 a.1 hb.1 ha.1) ⟨Z2 _,Z2 _,Yt⟩ ?_;cases hd:decide (b.1 ||| a.1=a.1)
   . refine go ?_;exact Z8 rfl Yt rfl
   . refine go ?_;refine Qe (Z1P b.2 a.2 hb.2 ha.2) ⟨Z2 _,Z2 _,Yt⟩ ?_;(refine go ?_;repeat' (apply B<;>intro hb<;>try cases hb))
     all_goals exact Z8 rfl Yt (XZ (by simp_all))
 . refine go ?_;exact Z8 rfl Yt rfl
theorem Z7Z (a b:Cu) (ha:XA a) (hb:XA b):Xa Tryz.prog 190 [cuP a,cuP b] (· = cuP (X16 a b)):=by
 refine Yp ok190 fun C hC=>?_;refine Zq ?_;refine Za ?_;refine Z5 rfl rfl rfl ?_;refine Z5 rfl rfl rfl ?_;refine go ?_;refine Qd (Z1G a.1 b.1 ha.1 hb.1) ⟨Z2 _,Z2 _,Yt⟩ ?_;refine go ?_;refine Qd (Z1G a.2 b.2 ha.2 hb.2) ⟨Z2 _,Z2 _,Yt⟩ ?_;refine go ?_;exact Z8 (r:=cuP (X16 a b)) rfl (Zx _) rfl
def meC (a b:Cu):Cu×Bool:=if emC (X16 a b) then ((0,0),false) else (X16 a b,true)
theorem ZcJ {a b:Cu} (ha:XA a) (hb:XA b):XA (X16 a b):=⟨Z1X ha.1 hb.1,Z1X ha.2 hb.2⟩
theorem Zhx:cuC (0,0) = [.vec [] false,.vec [] false]:=by simp only [cuC]; rw [ZM]; rfl
theorem Z80 (a b:Cu) (ha:XA a) (hb:XA b):Xa Tryz.prog 191 [cuP a,cuP b] (· = .tup [cuP (meC a b).1,.val (.bool (meC a b).2)]):=by
 refine Yp ok191 fun C hC=>?_;refine Zq ?_;refine Za ?_;refine Z5 rfl rfl rfl ?_;refine Z5 rfl rfl rfl ?_;refine go ?_;refine Qe (Z7Z a b ha hb) ⟨Zi _,Zi _,Yt⟩ ?_;refine go ?_;refine Qe (Z1k _ (ZcJ ha hb)) ⟨Zi _,Yt⟩ ?_;unfold meC;cases he:emC (X16 a b)
 . refine go ?_;exact Z8 rfl ⟨Zx _,Yt,Yt⟩ rfl
 . refine go ?_;refine Z1I rfl (Z2C rfl) ?_;simp only [Y1Z,cuP,Zhx]
   rfl
theorem Z6R (a b:Cu) (ha:XA a) (hb:XA b):Xa Tryz.prog 37 [cuP a,cuP b] (· = .val (.bool (eqC a b))):=by
 refine Yp ok37 fun C hC=>?_;refine Zq ?_;refine Za ?_;refine Z5 rfl rfl rfl ?_;refine Z5 rfl rfl rfl ?_;refine go ?_;refine Qe (Z4A a.1 b.1 ha.1 hb.1) ⟨Z2 _,Z2 _,Yt⟩ ?_;unfold eqC;cases hd:decide (a.1=b.1)
 . refine go ?_;exact Z8 rfl Yt rfl
 . refine go ?_;refine Qe (Z4A a.2 b.2 ha.2 hb.2) ⟨Z2 _,Z2 _,Yt⟩ ?_;(refine go ?_;repeat' (apply B<;>intro hb<;>try cases hb))
   all_goals exact Z8 rfl Yt (XZ (by simp_all))
end
section
open Go.RowKit
def X1Z (x y:Nat):Int:=if x<y then -1 else if x=y then 0 else 1
theorem Zhy {x y:Nat}:X1Z x y<0↔x<y:=by unfold X1Z; split<;>(try split)<;>omega
theorem ZfD {x y:Nat}:X1Z x y=0↔x=y:=by unfold X1Z; split<;>(try split)<;>omega
theorem Z6S (x:Nat):X1Z x x=0:=ZfD.2 rfl
def X1Q (a:Nat):Nat:=if a=0 then 0 else if a % 2=1 then 1 else 2
def X2D:Nat->Nat->Nat
 | 0,_=>0
 | k+1,a=>X1Q a*3 ^ k+X2D k (a / 2)
theorem Zjf (a:Nat):X1Q a<=2:=by unfold X1Q; split<;>(try split)<;>omega
theorem Z3o:∀ (k a:Nat),X2D k a<3 ^ k
 | 0,_=>by simp [X2D]
 | k + 1, a => by
   have h1:=Z3o k (a / 2);have h2:=Zjf a;have h3:X1Q a*3 ^ k<=2*3 ^ k:=YR _ h2;simp only [X2D,Y21];omega
theorem Z38:∀ k,X2D k 0=0
 | 0=>rfl
 | k+1=>by simp [X2D,X1Q,Z38 k]
def X7V:List Nat->List Nat->Int
 | [],[]=>0
 | [],_ :: _ => -1
 | _ :: _,[]=>1
 | x :: xs,y :: ys=>if x<y then -1 else if y<x then 1 else X7V xs ys
def X8n (k N:Nat):List Nat:=(List.range k).filter fun i=>N.testBit i
theorem ZcK:∀ {k a b:Nat},a<2 ^ k->b<2 ^ k->X2D k a=X2D k b->a=b:=by
 intro k
 induction k with
 | zero=>intro a b ha hb _; simp at ha hb; omega
 | succ k ih =>
   intro a b ha hb h;have ha':a / 2<2 ^ k:=by rw [Y21] at ha; omega
   have hb':b / 2<2 ^ k:=by rw [Y21] at hb; omega
   have la:=Z3o k (a / 2);have lb:=Z3o k (b / 2);simp only [X2D] at h;have hp:0<3 ^ k:=Y2O (by decide);have hd:X1Q a=X1Q b:=by
    have h1:(X1Q a*3 ^ k+X2D k (a / 2)) / 3 ^ k=X1Q a:=by rw [Y1M,Y3V hp,Y1W la]; rfl
    have h2:(X1Q b*3 ^ k+X2D k (b / 2)) / 3 ^ k=X1Q b:=by rw [Y1M,Y3V hp,Y1W lb]; rfl
    rw [<- h1,<- h2,h]
   rw [hd] at h;have h2:=ih ha' hb' (by omega);unfold X1Q at hd;by_cases h3:a=0<;>by_cases h4:b=0<;>simp only [h3,h4,Y1Z,Y2g] at hd
   . omega
   . split at hd<;>omega
   . split at hd<;>omega
   . split at hd<;>split at hd<;>omega
abbrev key (N:Nat):Nat:=X2D 64 N
theorem ZfE {a b:Nat} (ha:a<18446744073709551616) (hb:b<18446744073709551616) (h:key a=key b):a=b:=ZcK (k:=64) ha hb h
theorem ZfF:∀ (k:Nat) {a b:Nat},a<2 ^ k->b<2 ^ k->a≠b->X1Z (X2D k a) (X2D k b)=(if a.testBit (tz (a ^^^ b)) then (if b / 2 ^ (tz (a ^^^ b)+1)=0 then 1 else -1) else (if a / 2 ^ (tz (a ^^^ b)+1)=0 then -1 else 1))
 | 0,a,b,ha,hb,hn=>by simp at ha hb; omega
 | k + 1, a, b, ha, hb, hn => by
   have ha':a / 2<2 ^ k:=by rw [Y21] at ha; omega
   have hb':b / 2<2 ^ k:=by rw [Y21] at hb; omega
   have la:=Z3o k (a / 2);have lb:=Z3o k (b / 2);have hx:(a ^^^ b) % 2=(a+b) % 2:=by have := @Nat.xor_mod_two_eq_one a b; omega
   have hx2:(a ^^^ b) / 2=a / 2 ^^^ b / 2:=Nat.xor_div_two
   have hx0:a ^^^ b≠0:=fun h=>hn (YF fun i=>by
    have:(a ^^^ b).testBit i=false:=by rw [h]; simp
    rw [Y4B] at this
    cases h1:a.testBit i<;>cases h2:b.testBit i<;>simp_all)
   by_cases h1:a % 2=1<;>by_cases h2:b % 2=1
   . have ht : tz (a ^^^ b) = tz (a / 2 ^^^ b / 2) + 1 := by
      rw [tz,dif_neg (by omega),hx2]
     have ih:=ZfF k ha' hb' (by omega);rw [ht,Y2K,Y21,Y1M,<- Y2v,<- Y2v,<- ih];have d1:X1Q a=1:=by unfold X1Q; rw [Y6 (by omega),Y5 h1]
     have d2:X1Q b=1:=by unfold X1Q; rw [Y6 (by omega),Y5 h2]
     simp only [X2D,d1,d2];unfold X1Z
     split<;>split<;>(try split)<;>(try split)<;>omega
   . have ht : tz (a ^^^ b) = 0 := by rw [tz, dif_pos (.inl (by omega))]
     have d1:X1Q a=1:=by unfold X1Q; rw [Y6 (by omega),Y5 h1]
     have e1:a.testBit 0=true:=by rw [Y2s]; simp [h1]
     rw [ht,e1];simp only [Y1Z,X2D,d1,Y17,Nat.pow_one];by_cases hz:b / 2=0
     . have d2 : X1Q b = 0 := by unfold X1Q; rw [Y5 (by omega)]
       have:0<3 ^ k:=Y2O (by decide);rw [Y5 hz,d2,hz,Z38];unfold X1Z;rw [Y6 (by omega),Y6 (by omega)]
     . have d2 : X1Q b = 2 := by unfold X1Q; rw [Y6 (by omega), Y6 h2]
       rw [Y6 hz,d2];unfold X1Z;rw [Y5 (by omega)]
   . have ht : tz (a ^^^ b) = 0 := by rw [tz, dif_pos (.inl (by omega))]
     have d2:X1Q b=1:=by unfold X1Q; rw [Y6 (by omega),Y5 h2]
     have e1:a.testBit 0=false:=by rw [Y2s]; simp [h1]
     rw [ht,e1];simp only [Y2w,Y2g,X2D,d2,Y17,Nat.pow_one];by_cases hz:a / 2=0
     . have d1 : X1Q a = 0 := by unfold X1Q; rw [Y5 (by omega)]
       have:0<3 ^ k:=Y2O (by decide);rw [Y5 hz,d1,hz,Z38];unfold X1Z;rw [Y5 (by omega)]
     . have d1 : X1Q a = 2 := by unfold X1Q; rw [Y6 (by omega), Y6 h1]
       rw [Y6 hz,d1];unfold X1Z;rw [Y6 (by omega),Y6 (by omega)]
   . have ht : tz (a ^^^ b) = tz (a / 2 ^^^ b / 2) + 1 := by
      rw [tz,dif_neg (by omega),hx2]
     have ih:=ZfF k ha' hb' (by omega);rw [ht,Y2K,Y21,Y1M,<- Y2v,<- Y2v,<- ih];have da:X1Q a=if a / 2=0 then 0 else 2:=by unfold X1Q; by_cases h:a=0<;>simp [h,h1]; omega
     have db:X1Q b=if b / 2=0 then 0 else 2:=by unfold X1Q; by_cases h:b=0<;>simp [h,h2]; omega
     simp only [X2D,da,db];have nz:∀ c,c<2 ^ k->c≠0->0<X2D k c:=fun c hc h0=>by
      rcases Y4h (X2D k c) with h|h
      . exact absurd (ZcK hc (Y2O (by decide)) (by rw [h,Z38])) h0
      . exact h
     by_cases hz1:a / 2=0<;>by_cases hz2:b / 2=0
     . omega
     . have := nz _ hb' hz2;simp only [hz1,hz2,Y1Z,Y2g,Z38];unfold X1Z;rw [Y5 (by omega),Y5 (by omega)]
     . have := nz _ ha' hz1;simp only [hz1,hz2,Y1Z,Y2g,Z38];unfold X1Z;rw [Y6 (by omega),Y6 (by omega),Y6 (by omega),Y6 (by omega)]
     . simp only [hz1, hz2, Y2g];unfold X1Z
       split<;>split<;>(try split)<;>(try split)<;>omega
def X1V (c:Nat×Nat):Nat:=key c.1*3 ^ 64+key c.2
theorem ZcL {a b:Nat×Nat} (ha:a.1<18446744073709551616/\a.2<18446744073709551616) (hb:b.1<18446744073709551616/\b.2<18446744073709551616) (h:X1V a=X1V b):a=b:=by
 have l1:key a.2<3 ^ 64:=Z3o 64 a.2;have l2:key b.2<3 ^ 64:=Z3o 64 b.2;unfold X1V at h;have h1:(key a.1*3 ^ 64+key a.2) / 3 ^ 64=key a.1:=by rw [Y1M,Y3V (Y2O (by decide)),Y1W l1,Y1g]
 have h2:(key b.1*3 ^ 64+key b.2) / 3 ^ 64=key b.1:=by rw [Y1M,Y3V (Y2O (by decide)),Y1W l2,Y1g]
 have h3:key a.1=key b.1:=by rw [<- h1,<- h2,h]
 have h4:key a.2=key b.2:=by rw [h3] at h; omega
 obtain⟨a1,a2⟩:=a;obtain⟨b1,b2⟩:=b;exact Y4f (ZfE ha.1 hb.1 h3) (ZfE ha.2 hb.2 h4)
def X5j (a b:Nat×Nat):Int:=if X1Z (key a.1) (key b.1)≠0 then X1Z (key a.1) (key b.1) else X1Z (key a.2) (key b.2)
theorem Zhz (a b:Nat×Nat):X5j a b=X1Z (X1V a) (X1V b):=by
 have l1:key a.2<3 ^ 64:=Z3o 64 a.2;have l2:key b.2<3 ^ 64:=Z3o 64 b.2;unfold X5j X1V;generalize key a.1=x at *;generalize key b.1=y at *;generalize key a.2=u at *;generalize key b.2=v at *;rcases Y4n x y with h|h|h
 . have e1 : X1Z x y = -1 := Y5 h;have e2:X1Z (x*3 ^ 64+u) (y*3 ^ 64+v) = -1:=Y5 (by omega);rw [e1,e2]; rfl
 . subst h;rw [Z6S];simp only [ne_eq,not_true_eq_false,Y2g];unfold X1Z
   split<;>split<;>(try split)<;>(try split)<;>omega
 . have e1 : X1Z x y = 1 := by unfold X1Z; rw [Y6 (by omega), Y6 (by omega)]
   have e2:X1Z (x*3 ^ 64+u) (y*3 ^ 64+v)=1:=by unfold X1Z; rw [Y6 (by omega),Y6 (by omega)]
   rw [e1,e2]; rfl
end
section
open Go.RowKit
attribute [local irreducible] aw Xk dK
def bl (x:Nat):Nat:=if x=0 then 0 else x.log2+1
theorem Z6T {x:Nat} (h:x≠0):bl x=bl (x / 2)+1:=by
 unfold bl;rw [Y6 h];by_cases h1:x / 2=0
 . have : x = 1 := by omega
   subst this
   rfl
 . rw [Y6 h1,Nat.log2_def,Y5 (by omega)]
theorem Z1w:∀ {k x:Nat},2 ^ k<=x->bl x=k+bl (x / 2 ^ k)
 | 0,x,_=>by simp
 | k + 1, x, h => by
   have hp:0<2 ^ k:=Y2O (by decide);rw [Y21] at h;rw [Z6T (by omega),Z1w (k:=k) (x:=x / 2) (by omega),Y2v,Y21,Y1M 2];omega
theorem ZfG:∀ {k x:Nat},x<2 ^ k->bl x<=k
 | 0,x,h=>by simp at h; subst h; exact Y0m _
 | k + 1, x, h => by
   by_cases h0:x=0
   . subst h0; exact Y0l _
   . have := ZfG (k := k) (x := x / 2) (by rw [Y21] at h; omega);rw [Z6T h0]; omega
theorem fd (a k:Nat) (c:Int) (hc:(2:Int) ^ (min c.toNat IntKind.u64.bits)=((k:Nat):Int)):Int.fdiv (a:Int) (2 ^ (min c.toNat IntKind.u64.bits))=((a / k:Nat):Int):=by
 rw [hc,Y3r _ (by omega)];exact (Int.natCast_ediv a k).symm
theorem X46 (a:Nat):Int.fdiv (a:Int) (2 ^ (min (32:Int).toNat IntKind.u64.bits))=((a / 4294967296:Nat):Int):=fd a _ 32 rfl
theorem X57 (a:Nat):Int.fdiv (a:Int) (2 ^ (min (16:Int).toNat IntKind.u64.bits))=((a / 65536:Nat):Int):=fd a _ 16 rfl
theorem fd8 (a:Nat):Int.fdiv (a:Int) (2 ^ (min (8:Int).toNat IntKind.u64.bits))=((a / 256:Nat):Int):=fd a _ 8 rfl
theorem Z62 {a b:Nat} (h:decide ((a:Int)≥(b:Int))=true):b<=a:=by simpa using h
theorem Z63 {a b:Nat} (h:decide ((a:Int)≥(b:Int))=false):a<b:=by simpa using h
theorem u8w {a:Nat} (h:a<256):IntKind.u8.wrap (a:Int)=(a:Int):=Y3G _ ⟨by omega,by omega⟩
theorem ZiD {n:Nat} {e:Env} {h:X1} {x i:Operand} {s:ByteArray} {k:IntKind} {m:Int} (hx:ev e x=some (.val (.string s))) (hi:ev e i=some (.val (.int k m))) (j:Nat) (hm:m=(j:Int)) (hj:j<256)
 (hs:(decide (s.size=256)&&(List.range 256).all fun j=>(s.data.toList.getD j 0).toNat == bl j)=true):X3 (.indexS x i) e h n=some (.val (.int .u8 (bl j:Nat)),h):=by
 rw [Y0k,YI] at hs;have h1:s.size=256:=Y0u hs.1;have h2:=hs.2 j (Y1t.2 hj);have h3:(s.data.toList.getD j 0).toNat=bl j:=by simpa using h2
 subst hm;simp only [X3,hx,hi,h1,Y11,h3];rw [Y5 (by omega)]
theorem Z3R {x s j:Nat} (h:bl x=s+bl j) (hs:s<=64) (hj:j<256):PV.val (.int .i64 (IntKind.i64.wrap ((s:Int)+IntKind.i64.wrap (bl j:Nat))))=.val (.int .i64 (bl x:Nat)):=by
 have:=ZfG (k:=8) (x:=j) hj;rw [Y0v ((bl j:Nat):Int) ⟨by omega,by omega⟩,Y0v _ ⟨by omega,by omega⟩,h]
 rfl
theorem Ze0 (x:Nat) (hx:x<18446744073709551616):Xa Tryz.prog 186 [.val (.int .u64 (x:Int))] (· = .val (.int .i64 (bl x:Nat))):=by
 refine Yp ok186 fun C hC=>?_;(refine go ?_;repeat' (apply B<;>intro hb<;>try cases hb))
 . rename_i h1 h2;have g1:=Z62 (b:=4294967296) h1;rw [X46] at h2;have g2:=Z62 (b:=65536) h2;rw [X46,X57] at hb;have g3:=Z62 (b:=256) hb;refine Qo (ZiD rfl rfl (((x / 4294967296) / 65536) / 256) (by rw [X46,X57,fd8]; exact u8w (by omega)) (by omega) (by decide +kernel)) ?_;(refine go ?_;repeat' (apply B<;>intro hb<;>try cases hb));have q1:bl (x)=32+bl ((x) / 4294967296):=Z1w (k:=32) g1;have q2:bl (x / 4294967296)=16+bl ((x / 4294967296) / 65536):=Z1w (k:=16) g2;have q3:bl ((x / 4294967296) / 65536)=8+bl (((x / 4294967296) / 65536) / 256):=Z1w (k:=8) g3;exact Z8 rfl Yt (Z3R (s:=56) (j:=((x / 4294967296) / 65536) / 256) (by omega) (by decide) (by omega))
 . rename_i h1 h2;have g1:=Z62 (b:=4294967296) h1;rw [X46] at h2;have g2:=Z62 (b:=65536) h2;rw [X46,X57] at hb;have g3:=Z63 (b:=256) hb;refine Qo (ZiD rfl rfl ((x / 4294967296) / 65536) (by rw [X46,X57]; exact u8w (by omega)) (by omega) (by decide +kernel)) ?_;refine go ?_;have q1:bl (x)=32+bl ((x) / 4294967296):=Z1w (k:=32) g1;have q2:bl (x / 4294967296)=16+bl ((x / 4294967296) / 65536):=Z1w (k:=16) g2;exact Z8 rfl Yt (Z3R (s:=48) (j:=(x / 4294967296) / 65536) (by omega) (by decide) (by omega))
 . rename_i h1 h2;have g1:=Z62 (b:=4294967296) h1;rw [X46] at h2;have g2:=Z63 (b:=65536) h2;rw [X46] at hb;have g3:=Z62 (b:=256) hb;refine Qo (ZiD rfl rfl ((x / 4294967296) / 256) (by rw [X46,fd8]; exact u8w (by omega)) (by omega) (by decide +kernel)) ?_;refine go ?_;have q1:bl (x)=32+bl ((x) / 4294967296):=Z1w (k:=32) g1;have q3:bl (x / 4294967296)=8+bl ((x / 4294967296) / 256):=Z1w (k:=8) g3;exact Z8 rfl Yt (Z3R (s:=40) (j:=(x / 4294967296) / 256) (by omega) (by decide) (by omega))
 . rename_i h1 h2;have g1:=Z62 (b:=4294967296) h1;rw [X46] at h2;have g2:=Z63 (b:=65536) h2;rw [X46] at hb;have g3:=Z63 (b:=256) hb;refine Qo (ZiD rfl rfl (x / 4294967296) (by rw [X46]; exact u8w (by omega)) (by omega) (by decide +kernel)) ?_;refine go ?_;have q1:bl (x)=32+bl ((x) / 4294967296):=Z1w (k:=32) g1;exact Z8 rfl Yt (Z3R (s:=32) (j:=x / 4294967296) (by omega) (by decide) (by omega))
 . rename_i h1 h2;have g1:=Z63 (b:=4294967296) h1;have g2:=Z62 (b:=65536) h2;rw [X57] at hb;have g3:=Z62 (b:=256) hb;refine Qo (ZiD rfl rfl ((x / 65536) / 256) (by rw [X57,fd8]; exact u8w (by omega)) (by omega) (by decide +kernel)) ?_;refine go ?_;have q2:bl (x)=16+bl ((x) / 65536):=Z1w (k:=16) g2;have q3:bl (x / 65536)=8+bl ((x / 65536) / 256):=Z1w (k:=8) g3;exact Z8 rfl Yt (Z3R (s:=24) (j:=(x / 65536) / 256) (by omega) (by decide) (by omega))
 . rename_i h1 h2;have g1:=Z63 (b:=4294967296) h1;have g2:=Z62 (b:=65536) h2;rw [X57] at hb;have g3:=Z63 (b:=256) hb;refine Qo (ZiD rfl rfl (x / 65536) (by rw [X57]; exact u8w (by omega)) (by omega) (by decide +kernel)) ?_;refine go ?_;have q2:bl (x)=16+bl ((x) / 65536):=Z1w (k:=16) g2;exact Z8 rfl Yt (Z3R (s:=16) (j:=x / 65536) (by omega) (by decide) (by omega))
 . rename_i h1 h2;have g1:=Z63 (b:=4294967296) h1;have g2:=Z63 (b:=65536) h2;have g3:=Z62 (b:=256) hb;refine Qo (ZiD rfl rfl (x / 256) (by rw [fd8]; exact u8w (by omega)) (by omega) (by decide +kernel)) ?_;refine go ?_;have q3:bl (x)=8+bl ((x) / 256):=Z1w (k:=8) g3;exact Z8 rfl Yt (Z3R (s:=8) (j:=x / 256) (by omega) (by decide) (by omega))
 . rename_i h1 h2;have g1:=Z63 (b:=4294967296) h1;have g2:=Z63 (b:=65536) h2;have g3:=Z63 (b:=256) hb;refine Qo (ZiD rfl rfl (x) (by exact u8w (by omega)) (by omega) (by decide +kernel)) ?_;refine go ?_;exact Z8 rfl Yt (Z3R (s:=0) (j:=x) ((Y17 _).symm) (by decide) (by omega))
theorem Zld {k x:Nat}:k<bl x↔2 ^ k<=x:=by
 constructor
 . intro h;rcases Y37 x (2 ^ k) with h1|h1
   . have:=ZfG h1; omega
   . exact h1
 . intro h;rw [Z1w h];have h1:1<=x / 2 ^ k:=(Nat.one_le_div_iff (Y2O (by decide))).2 h;have h2:bl (x / 2 ^ k)=bl (x / 2 ^ k / 2)+1:=Z6T (by omega);omega
def X5G (N:Nat):Int:=if N=0 then 0 else (bl N:Int)-1
theorem Z3p (N:Nat) (hN:N<18446744073709551616):Xa Tryz.prog 173 [XH N] (· = .tup [.val (.int .i64 (X5G N)),.val (.bool (decide (N≠0)))]):=by
 rcases Z19 hN with⟨rfl,e1⟩|⟨h1,e1⟩
 all_goals
  refine Yp ok173 fun C hC=>?_;rw [e1];refine Zq ?_;refine Za ?_;refine Z5 rfl rfl rfl ?_;refine go ?_;refine Z6 (Z36 _ hN) rfl rfl (by rw [e1]; rfl) ⟨Z2 _,Yt⟩ rfl ?_
 . refine go ?_;exact Z8 rfl (Z2C rfl) rfl
 . have hd : decide (N = 0) = false := Y0w h1;rw [hd];refine go ?_;refine Qe (Ze0 N hN) ⟨Yt,Yt⟩ ?_;have hb:=ZfG (k:=64) hN;have hp:=Z6T h1;refine go ?_;refine Z8 rfl (Z2C rfl) ?_;unfold X5G;rw [Y6 h1,Yw h1];have w0:IntKind.i64.wrap (64*IntKind.i64.wrap (1-1))=0:=by decide
   have w1:IntKind.i64.wrap (0+(bl N:Int))=(bl N:Int):=by rw [Int.zero_add]; exact Y0v _ ⟨by omega,by omega⟩
   have w2:IntKind.i64.wrap ((bl N:Int)-1)=(bl N:Int)-1:=Y0v _ ⟨by omega,by omega⟩;show PV.tup [.val (.int .i64 (IntKind.i64.wrap (IntKind.i64.wrap (IntKind.i64.wrap (64*IntKind.i64.wrap (1-1))+(bl N:Int))-1))),.val (.bool true)]=_;rw [w0,w1,w2]
theorem Z6U (N:Nat) (hN:N<18446744073709551616) (i:Nat) (hi:i<64):Xa Tryz.prog 195 [XH N,Yv i] (· = .val (.bool (decide (N / 2 ^ (i+1)≠0)))):=by
 refine Yp ok195 fun C hC=>?_;refine Zq ?_;refine Za ?_;refine Z5 rfl rfl rfl ?_;refine go ?_;refine Qe (Z3p N hN) ⟨Z2 _,Yt⟩ ?_;have hdiv:N / 2 ^ (i+1)≠0↔2 ^ (i+1)<=N:=by
  rw [Ne,Nat.div_eq_zero_iff_lt (Y2O (by decide))];omega
 have hg:=Zld (k:=i+1) (x:=N);by_cases h0:N=0
 . subst h0;rw [show decide ((0:Nat)≠0)=false from rfl];refine go ?_;exact Z8 rfl Yt (XZ (by simp))
 . rw [Yw (p := N ≠ 0) h0];have ht:X5G N=(bl N:Int)-1:=Y6 h0;rw [ht];(refine go ?_;repeat' (apply B<;>intro hb<;>try cases hb))
   all_goals
    refine Z8 rfl Yt (XZ ?_);symm
   . rw [Y2b, hdiv, <- hg];have:(bl N:Int)-1>(i:Int):=by simpa using hb
     omega
   . rw [Y3A, hdiv, <- hg];have:¬ (bl N:Int)-1>(i:Int):=by simpa using hb
     omega
theorem Zle {x:Nat} (hx:x<18446744073709551616) (h:x≠0):tz x<64:=Z5R hx (Z9I h)
theorem Zjg {a b:Nat} (ha:a<18446744073709551616) (hb:b<18446744073709551616) (hn:a≠b):X1Z (key a) (key b)=(if a.testBit (tz (a ^^^ b)) then (if b / 2 ^ (tz (a ^^^ b)+1)=0 then 1 else -1) else (if a / 2 ^ (tz (a ^^^ b)+1)=0 then -1 else 1)):=ZfF 64 ha hb hn
theorem ZiE {a b:Nat} (hn:a≠b):a ^^^ b≠0:=fun h=>hn (YF fun i=>by
 have:(a ^^^ b).testBit i=false:=by rw [h]; simp
 rw [Y4B] at this
 cases h1:a.testBit i<;>cases h2:b.testBit i<;>simp_all)
theorem Z9T (N:Nat) (hN:N<18446744073709551616):(X7 N).getD 0 0=N:=by
 by_cases h:N=0
 . subst h; rw [ZM]; rfl
 . rw [Z4Z hN h]; rfl
theorem Z5a (N M:Nat) (hN:N<18446744073709551616) (hM:M<18446744073709551616):Xa Tryz.prog 167 [XH N,XH M] (· = .val (.int .i64 (X1Z (key N) (key M)))):=by
 have hxor:=Y1y N M hN hM;have hxl:N ^^^ M<18446744073709551616:=Y4g (n:=64) hN hM;by_cases hz:N=0/\M=0
 . obtain ⟨rfl, rfl⟩ := hz;rw [Z1W];refine Yp ok167 fun C hC=>?_;refine Zq ?_;refine Za ?_;refine Z5 rfl rfl rfl ?_;refine Z5 rfl rfl rfl ?_;refine go ?_;refine Z1z 0 ?_;refine go ?_;exact Z8 rfl Yt (by rw [Z6S]; rfl)
 . have hlen : max (X7 N).length (X7 M).length = 1 := by
    have h1:∀ x,x<18446744073709551616->(X7 x).length=if x=0 then 0 else 1:=fun x hx=>by
     by_cases h:x=0
     . subst h; rw [ZM]; rfl
     . rw [Z4Z hx h,Y6 h]; rfl
    rw [h1 N hN,h1 M hM];by_cases h2:N=0<;>by_cases h3:M=0<;>simp_all
   refine Yp ok167 fun C hC=>?_;refine Zq ?_;refine Za ?_;refine Z5 rfl rfl rfl ?_;refine Z5 rfl rfl rfl ?_;refine go ?_;refine Z6z hC [(2,.cp [.vec (X5 (X7 N)) false]),(3,.cp [.vec (X5 (X7 M)) false]),(14,.val (.int .i64 1)),(15,.val (.int .i64 0))] [] (Y0l 0) ⟨⟨rfl,Zr _ _,Yt⟩,⟨rfl,Zr _ _,Yt⟩,⟨?_,Yt⟩,⟨rfl,Yt⟩,Yt⟩ Yt ?_
   . have h1 : (X5 (X7 N)).length = (X7 N).length := by simp [X5]
     have h2:(X5 (X7 M)).length=(X7 M).length:=by simp [X5]
     show some (PV.val (.int .i64 (if ((X5 (X7 M)).length:Int)>((X5 (X7 N)).length:Int) then ((X5 (X7 M)).length:Int) else ((X5 (X7 N)).length:Int))))=_;rw [h1,h2,show (if ((X7 M).length:Int)>((X7 N).length:Int) then ((X7 M).length:Int) else ((X7 N).length:Int))=1 by split<;>omega]
   refine Z1z 1 ?_;refine go ?_;refine Qd (Z1e (X7 N) 0) ⟨Z2 N,Yt,Yt⟩ ?_;rw [Z9T N hN];refine go ?_;refine Qd (Z1e (X7 M) 0) ⟨Z2 M,Yt,Yt⟩ ?_;rw [Z9T M hM];refine Qr (ZS rfl hxor) ?_;(refine go ?_;repeat' (apply B<;>intro hb<;>try cases hb))
   . have h0 : ((N ^^^ M : Nat) : Int) = 0 := by simpa using hb
     have hz:N=M:=YV fun hn=>ZiE hn (by omega);exact Z8 rfl Yt (by rw [hz,Z6S]; rfl)
   . have h0 : ¬ ((N ^^^ M : Nat) : Int) = 0 := by simpa using hb
     have hn:N≠M:=fun h=>h0 (by subst h; simp);have hx0:=ZiE hn;have ht:=Zle hxl hx0;have hbit:=Z9I hx0;rw [Y4B] at hbit;have hsg:=Zjg hN hM hn;refine Qe (Zfg _ hxl hx0) ⟨Yt,Yt⟩ ?_;have hadd:IntKind.i64.wrap (IntKind.i64.wrap (64*0)+((tz (N ^^^ M):Nat):Int))=((tz (N ^^^ M):Nat):Int):=by
      rw [show IntKind.i64.wrap (64*0)=0 by decide,Int.zero_add];exact Y0v _ ⟨by omega,by omega⟩
     refine Qo (ZS rfl hadd) ?_;generalize tz (N ^^^ M)=t at *;refine go ?_;refine Qd (Z1Y N hN t) ⟨Z2 N,Yt,Yt⟩ ?_;rw [show (decide ((0:Int)<=(t:Int))&&N.testBit (t:Int).toNat)=N.testBit t by simp];refine go ?_;refine Qd (Z1Y M hM t) ⟨Z2 M,Yt,Yt⟩ ?_;rw [show (decide ((0:Int)<=(t:Int))&&M.testBit (t:Int).toNat)=M.testBit t by simp];cases hN1:N.testBit t<;>cases hM1:M.testBit t<;>rw [hN1,hM1] at hbit<;>try cases hbit
     . rw [hN1] at hsg;refine go ?_;refine Qe (Z1Y N hN t) ⟨Z2 N,Yt,Yt⟩ ?_;rw [show (decide ((0:Int)<=(t:Int))&&N.testBit (t:Int).toNat)=false by simp [hN1]];refine go ?_;refine Qe (Z1Y M hM t) ⟨Z2 M,Yt,Yt⟩ ?_;rw [show (decide ((0:Int)<=(t:Int))&&M.testBit (t:Int).toNat)=true by simp [hM1]];refine go ?_;refine Qe (Z6U N hN t ht) ⟨Z2 N,Yt,Yt⟩ ?_;by_cases hd:N / 2 ^ (t+1)=0
       . rw [show decide (N / 2 ^ (t + 1) ≠ 0) = false by simp [hd]];refine go ?_;exact Z8 rfl Yt (by rw [hsg,Y6 (by decide),Y5 hd]; rfl)
       . rw [show decide (N / 2 ^ (t + 1) ≠ 0) = true by simp [hd]];refine go ?_;exact Z8 rfl Yt (by rw [hsg,Y6 (by decide),Y6 hd]; rfl)
     . rw [hN1] at hsg;refine go ?_;refine Qe (Z1Y N hN t) ⟨Z2 N,Yt,Yt⟩ ?_;rw [show (decide ((0:Int)<=(t:Int))&&N.testBit (t:Int).toNat)=true by simp [hN1]];refine go ?_;refine Qe (Z6U M hM t ht) ⟨Z2 M,Yt,Yt⟩ ?_;by_cases hd:M / 2 ^ (t+1)=0
       . rw [show decide (M / 2 ^ (t + 1) ≠ 0) = false by simp [hd]];refine go ?_;refine Qe (Z1Y M hM t) ⟨Z2 M,Yt,Yt⟩ ?_;rw [show (decide ((0:Int)<=(t:Int))&&M.testBit (t:Int).toNat)=false by simp [hM1]];refine go ?_;exact Z8 rfl Yt (by rw [hsg,Y5 rfl,Y5 hd]; rfl)
       . rw [show decide (M / 2 ^ (t + 1) ≠ 0) = true by simp [hd]];refine go ?_;exact Z8 rfl Yt (by rw [hsg,Y5 rfl,Y6 hd]; rfl)
attribute [local irreducible] X1Z X2D in
theorem Z8U (a b:Cu) (ha:XA a) (hb0:XA b):Xa Tryz.prog 204 [cuP a,cuP b] (· = .val (.int .i64 (X5j a b))):=by
 refine Yp ok204 fun C hC=>?_;refine Zq ?_;refine Za ?_;refine Z5 rfl rfl rfl ?_;refine Z5 rfl rfl rfl ?_;refine go ?_;refine Qe (Z5a a.1 b.1 ha.1 hb0.1) ⟨Z2 _,Z2 _,Yt⟩ ?_;(refine go ?_;repeat' (apply B<;>intro hb<;>try cases hb))
 . have h : X1Z (key a.1) (key b.1) ≠ 0 := by simpa using hb
   exact Z8 rfl Yt (by rw [X5j,Y5 h])
 . have h : ¬ X1Z (key a.1) (key b.1) ≠ 0 := by simpa using hb
   refine Qe (Z5a a.2 b.2 ha.2 hb0.2) ⟨Z2 _,Z2 _,Yt⟩ ?_;refine go ?_;exact Z8 rfl Yt (by rw [X5j,Y6 h])
end
section
open Go.RowKit
theorem Z1r (y i j:Nat):(y ||| 2 ^ i).testBit j=(y.testBit j||decide (i=j)):=by rw [Y00,YK]
def X5y (c:Nat×Nat):List (Nat×Nat)->List (Nat×Nat)
 | [] => [c]
 | d :: l=>if X1V c<=X1V d then c :: d :: l else d :: X5y c l
def X1L:List (Nat×Nat)->List (Nat×Nat)
 | [] => []
 | c :: l=>X5y c (X1L l)
theorem Z6V (c:Nat×Nat):∀ l,(X5y c l).Perm (c :: l)
 | []=>.refl _
 | d :: l => by
   simp only [X5y]
   split
   . exact .refl _
   . exact ((Z6V c l).cons d).trans (.swap c d l)
theorem Z2z:∀ l,(X1L l).Perm l
 | []=>.refl _
 | c :: l=>(Z6V c _).trans ((Z2z l).cons c)
theorem Z6W (c:Nat×Nat):∀ {l},l.Pairwise (fun a b=>X1V a<=X1V b)->(X5y c l).Pairwise fun a b=>X1V a<=X1V b
 | [],_=>Y2W _ _
 | d :: l, h => by
   simp only [X5y];rw [Y10] at h
   split
   . rename_i hle;refine Y10.2 ⟨fun x hx=>?_,Y10.2 h⟩;rcases Y9.1 hx with rfl|hx
     . exact hle
     . exact Y03 hle (h.1 x hx)
   . rename_i hle;refine Y10.2 ⟨fun x hx=>?_,Z6W c h.2⟩;rcases Y9.1 ((Z6V c l).mem_iff.1 hx) with rfl|hx
     . omega
     . exact h.1 x hx
theorem Z3S:∀ l,(X1L l).Pairwise fun a b=>X1V a<=X1V b
 | []=>.nil
 | c :: l=>Z6W c (Z3S l)
theorem Z5b:∀ {l m:List (Nat×Nat)},l.Pairwise (fun a b=>X1V a<=X1V b)->m.Pairwise (fun a b=>X1V a<=X1V b)->l.Perm m->(∀ c∈l,c.1<18446744073709551616/\c.2<18446744073709551616)->l=m
 | [],m,_,_,h,_=>h.nil_eq
 | c :: l,[],_,_,h,_=>absurd h.length_eq (by simp)
 | c :: l, d :: m, h1, h2, h, h64 => by
   rw [Y10] at h1 h2;have hcd:X1V c<=X1V d:=by
    rcases Y9.1 (h.mem_iff.2 (Y0t ..)) with e|e
    . rw [e]; exact Y0m _
    . exact h1.1 d e
   have hdc:X1V d<=X1V c:=by
    rcases Y9.1 (h.mem_iff.1 (Y0t ..)) with e|e
    . rw [e]; exact Y0m _
    . exact h2.1 c e
   have hd64:d.1<18446744073709551616/\d.2<18446744073709551616:=h64 d (h.mem_iff.2 (Y0t ..));have e:c=d:=ZcL (h64 c (Y0t ..)) hd64 (Nat.le_antisymm hcd hdc);subst e;rw [Z5b h1.2 h2.2 (List.Perm.cons_inv h) fun x hx=>h64 x (YD _ hx)]
theorem Z9U {l m:List (Nat×Nat)} (h:m.Perm l) (hs:m.Pairwise fun a b=>X1V a<=X1V b) (h64:∀ c∈l,c.1<18446744073709551616/\c.2<18446744073709551616):m=X1L l :=
 Z5b hs (Z3S l) (h.trans (Z2z l).symm) fun c hc=>h64 c (h.mem_iff.1 hc)
theorem ZcM {l:List (Nat×Nat)} (h64:∀ c∈l,c.1<18446744073709551616/\c.2<18446744073709551616):∀ c∈X1L l,c.1<18446744073709551616/\c.2<18446744073709551616:=fun c hc=>h64 c ((Z2z l).mem_iff.1 hc)
end
section
open Go.RowKit
attribute [local irreducible] aw Xk dK
def bys (l:List Nat):List (List PV):=l.map fun (x:Nat) => [.val (.int .u8 (x:Int))]
def X4d (l:List Nat):Prop:=∀ x∈l,x<=255
def X4B (l:List Nat) (fl:Bool) (t:Nat):Bx:=⟨2,[[.vec (bys l) fl,.val (.int .i64 (t:Int))]]⟩
theorem Zg (l:List Nat):X2 (bys l):=Z33 _ _ fun _ _=>⟨Yt,Yt⟩
theorem Zbv (l:List Nat) (D:Nat->Prop):Xu D (bys l):=Ze (fun _ h=>h.elim) _ (Zg l)
theorem ZK (l:List Nat) (fl:Bool) (t:Nat):X2 (X4B l fl t).elems:=⟨⟨Zg l,Yt,Yt⟩,Yt⟩
theorem ZhE (l:List Nat) (fl:Bool) (t:Nat) (D:Nat->Prop):Xu D (X4B l fl t).elems:=Ze (fun _ h=>h.elim) _ (ZK l fl t)
theorem or_pow_bit' (y i j:Nat):(y ||| 2 ^ i).testBit j=(y.testBit j||decide (i=j)):=by rw [Y00,YK]
theorem Z9X:∀ (l:List Int) (t:Int),t<=l.foldl (fun t i=>if i<=4095 then (if i>t then i else t) else t) t/\∀ r∈l,r<=4095->r<=l.foldl (fun t i=>if i<=4095 then (if i>t then i else t) else t) t
 | [],t=>⟨Int.le_refl t,fun r hr=>by cases hr⟩
 | a :: l, t => by
   rw [Y19];obtain⟨h1,h2⟩:=Z9X l (if a<=4095 then (if a>t then a else t) else t);refine⟨Int.le_trans (by split<;>(try split)<;>omega) h1,fun r hr h=>?_⟩;rcases Y9.1 hr with rfl|hr
   . refine Int.le_trans ?_ h1;rw [Y5 h]
     split<;>omega
   . exact h2 r hr h
theorem Z82 {top:Int}:∀ (l:List Int) (a:Nat),(∀ r∈l,0<=r/\r<=top)->l.foldl (fun acc i=>if 0<=i/\i<=top then acc ||| 2 ^ i.toNat else acc) a=l.foldl (fun acc r=>acc ||| 2 ^ r.toNat) a
 | [],a,_=>rfl
 | x :: l, a, h => by
   rw [Y19,Y19,Y5 (h x (Y0t ..))];exact Z82 l _ fun r hr=>h r (YD _ hr)
theorem Z9Y:∀ (l:List Int) (a i:Nat),(l.foldl (fun acc r=>acc ||| 2 ^ r.toNat) a).testBit i=true↔a.testBit i=true \/ ∃ r∈l,r.toNat=i
 | [],a,i=>by simp
 | x :: l, a, i => by
   rw [Y19,Z9Y l,or_pow_bit',YP,Y2b];constructor
   . rintro ((h | h) | ⟨r, hr, h⟩)
     . exact .inl h
     . exact .inr ⟨x,Y0t ..,h⟩
     . exact .inr ⟨r,YD _ hr,h⟩
   . rintro (h | ⟨r, hr, h⟩)
     . exact .inl (.inl h)
     . rcases Y9.1 hr with rfl | hr
       . exact .inl (.inr h)
       . exact .inr ⟨r,hr,h⟩
end
section
def g0 (l:List Nat) (i:Nat):Nat:=l.getD i 0
def X5p (w n:Nat):Nat:=(w*2 ^ n) % 18446744073709551616 ||| w / 2 ^ (64-n)
def kkC (a:List Nat) (x:Nat):Nat:=g0 a x ^^^ g0 a (x+5) ^^^ g0 a (x+10) ^^^ g0 a (x+15) ^^^ g0 a (x+20)
def kCs (a:List Nat):List Nat:=(List.range 5).map (kkC a)
def kkD (c:List Nat) (x:Nat):Nat:=g0 c ((x+4) % 5) ^^^ X5p (g0 c ((x+1) % 5)) 1
def kkT (i:Nat):Nat:=(X1P.getD i 0).toNat
def X5x (a c b:List Nat) (m:Nat):List Nat:=b.set (m % 5+5*((2*(m / 5)+3*(m % 5)) % 5)) (X5p (g0 a (m / 5+5*(m % 5)) ^^^ kkD c (m / 5)) (kkT (m / 5+5*(m % 5))))
def X2r (a c:List Nat):Nat->List Nat
 | 0=>List.replicate 25 0
 | m+1=>X5x a c (X2r a c m) m
def X53 (b:List Nat) (i:Nat):Nat:=g0 b i ^^^ ((18446744073709551615 ^^^ g0 b ((i % 5+1) % 5+(i-i % 5))) &&& g0 b ((i % 5+2) % 5+(i-i % 5)))
def X4z (b:List Nat):List Nat:=(List.range 25).map (X53 b)
def X3K (a:List Nat) (rc:Nat):List Nat :=
 let a':=X4z (X2r a (kCs a) 25)
 a'.set 0 (g0 a' 0 ^^^ rc)
def X3l (a:List Nat):Nat->List Nat
 | 0=>a
 | m+1=>X3K (X3l a m) (XS.getD m 0).toNat
def perm (a:List Nat):List Nat:=X3l a 24
def X1X (bl:List Nat) (i:Nat):Nat->Nat
 | 0=>0
 | j+1=>(X1X bl i j*256) % 18446744073709551616 ||| g0 bl (8*i+(7-j))
def X3L (a bl:List Nat):Nat->List Nat
 | 0=>a
 | i+1=>let b:=X3L a bl i; b.set i (g0 b i ^^^ X1X bl i 8)
def X1O (a bl:List Nat):List Nat:=perm (X3L a bl 17)
structure HS where
 st:List Nat
 bl:List Nat
 used:Nat
 total:Nat
def HS.put (h:HS) (p:List Nat):HS :=
 let n:=min p.length (136-h.used)
 let bl:=h.bl.take h.used++p.take n++h.bl.drop (h.used+n)
 if h.used+n=136 then ⟨X1O h.st bl,bl,0,h.total⟩ else ⟨h.st,bl,h.used+n,h.total⟩
def HS.puts:Nat->HS->List Nat->HS
 | 0,h,_=>h
 | f+1,h,p=>if p.length=0 then h else HS.puts f (h.put p) (p.drop (min p.length (136-h.used)))
def X32 (bl:List Nat) (used:Nat):List Nat :=
 let l:=(bl.take used++List.replicate (136-used) 0).set used 6
 l.set 135 (g0 l 135 ^^^ 128)
def X5A (st:List Nat) (i:Nat):Nat:=(g0 st (i / 8) / 2 ^ (8*(i % 8))) % 256
end
section
open Go.RowKit
attribute [local irreducible] aw Xk dK
section
variable {P:Program} {C:Ctx} {Fr:Nat->Prop} {e:Env} {h:X1} {n:Nat} {F:XF} {φ:XD} {a:Act} {w:World} {K:Nat->Env->X1->Prop} {os:List Xl} {d:Option Nat} {Q:Exit->Nat->Env->X1->Prop}
def X2v (P:Program) (f:FuncId) (args:Nat->List PV) (b:Bx) (R:PV->Bx->Prop):Prop :=
 XX P f 1 (args 0) (X1.upd (fun _=>none) 0 b) fun _ r h'=>∃ b',h' 0=some b'/\r.pure/\X2 b'.elems/\R r b'
def MkL (args:Nat->List PV):Prop:=(∀ i n,(args i).length=(args n).length)/\∀ (F:XF) (φ φ':XD) (v:Value) (i n j:Nat),φ i=φ' n->Rep F φ v ((args i).getD j pvu)->Rep F φ' v ((args n).getD j pvu)
theorem Z7e (k off:Nat):Mk fun i=>.ptr i k off:=fun F φ φ' v i n hn hv=>by
 obtain⟨loc,x,g1,gz,g2,g3,rfl⟩:=hv.ptr_inv;exact .ptr n k off loc x (hn▸g1) gz g2 g3
theorem ZkI (k off len cap:Nat):Mk fun i=>.sl i k off len cap:=fun F φ φ' v i n hn hv=>by
 obtain⟨loc,x,g1,gz,g2,g3,g4,rfl⟩:=hv.sl_inv;exact .sl n k off len cap loc x (hn▸g1) gz g2 g3 g4
theorem Zgg:MkL fun _ => []:=⟨fun _ _=>rfl,fun F φ φ' v i n j hn hv=>by simpa [pvu] using hv.pure (φ':=φ') (show (([]:List PV).getD j pvu).pure by simp [pvu,PV.inn])⟩
theorem Z9d {a:Nat->PV} {l:Nat->List PV} (ha:Mk a) (hl:MkL l):MkL fun i=>a i :: l i:=⟨fun i n=>by simp [hl.1 i n],fun F φ φ' v i n j hn hv=>by
 cases j with
 | zero=>exact ha F φ φ' v i n hn hv
 | succ j=>exact hl.2 F φ φ' v i n j hn hv⟩
theorem X2v.run {f:FuncId} {b:Bx} {args:Nat->List PV} {R:PV->Bx->Prop} (hs:X2v P f args b R) (hm:MkL args) (hpb:X2 b.elems) {id:Nat} (hb:h id=some b) (s:St' C Fr e h F φ a w) {vs:Array Value} (hv:X1B F φ vs (args id)) :
 Calls P f vs w fun en w'=>∃ v r b' F',en=.returned v/\(r.pure/\X2 b'.elems/\R r b')/\Rep F' φ v r/\St' C Fr e (h.upd id b') F' φ a w':=by
 obtain⟨loc,hloc,hbx,hhas⟩:=s.live id b hb
 let φ1:XD:=fun i=>if i=0 then some loc else none
 let C1:Ctx:=⟨w,fun k=>loc.has k,F,C.nt,φ1⟩
 have hG:∀ k,C1.G k->C.w0.heap.size<=k \/ C.G k:=fun k hk=>(hhas k hk).1;have hcells:∀ k,C1.G k->∀ o:Obj,w.heap[k]?=some o->¬ o=.deferred (some []):=by
  rintro k hk o ho rfl;rcases hbx.there hk with⟨cells,t,hg⟩|⟨es,t,hg⟩
  . rw [hg] at ho; cases ho
  . rw [hg] at ho; cases ho
 have h0:∀ {i:Nat} {b0:Bx},(X1.upd (fun _=>none) 0 b) i=some b0->i=0/\b0=b:=by
  intro i b0 hi;by_cases hi0:i=0
  . subst hi0; rw [X1.upd_same] at hi; exact⟨rfl,(YN hi).symm⟩
  . rw [X1.upd_ne _ _ hi0] at hi; cases hi
 have s1:St' C1 (fun i=>1<=i) (fun _=>none) (X1.upd (fun _=>none) 0 b) F φ1 { a with defers := [] } w:=by
  refine { nt:=s.nt,glob:=s.glob,marks:=X1l.nil rfl,loc0:=fun i x hx=>hx,free:=fun i hi=>?_,env:=fun k p hp=>(by cases hp),froz:=s.froz,ext:=fun _ _ h=>h,old:=fun _ _ _=>rfl,os:=rfl,tape:=rfl,output:=rfl,size:=Y0m _,kept:=fun _ _ _=>rfl,live:=fun i b0 hi=>?_,sep:=fun i j bi bj li lj k hi hj _ _ _ _=>?_ }
  . simp only [φ1]; rw [Y6 (by omega)]
  . obtain ⟨rfl, rfl⟩ := h0 hi;exact⟨loc,by simp [φ1],hbx.names hpb,fun k hk=>⟨.inr hk,(hhas k hk).2⟩⟩
  . rw [(h0 hi).1,(h0 hj).1]
 have hv1:X1B F φ1 vs (args 0):=⟨by rw [hv.1]; exact hm.1 id 0,fun i hi=>hm.2 F φ φ1 _ id 0 i (by rw [hloc]; simp [φ1]) (hv.2 i (by rw [hm.1 id 0]; exact hi))⟩
 refine (hs.2 C1 _ F φ1 { a with defers := [] } w vs s1 hv1).mono ?_;rintro en w' ⟨v,r,n',h',F',φ',rfl,⟨b',hb',hr,hpb',hR⟩,hvr,s'⟩;have hφ0:φ' 0=some loc:=s'.loc0 0 loc (by simp [C1,φ1]);refine⟨v,r,b',F',rfl,⟨hr,hpb',hR⟩,hvr.pure hr,?_⟩
 refine { nt := s.nt, glob := s'.glob, marks := s.marks.mono (fun k hk => by rw [s'.kept k (Y7.1 hk).1 (fun hg => hcells k hg _ hk rfl)]; exact hk), loc0 := s.loc0, free := s.free, env := fun k p hp => ⟨(s.env k p hp).1, (s.env k p hp).2.mono s'.ext fun _ _ h => h⟩, froz := s'.froz, ext := fun x v hx => s'.ext _ _ (s.ext x v hx),
          old:=fun x hx hg=>?_,os:=s'.os.trans s.os,tape:=s'.tape.trans s.tape,output:=s'.output.trans s.output,size:=Y03 s.size s'.size,kept:=fun k hk hg=>?_,live:=fun i bi hi=>?_,sep:=fun i j bi bj li lj k hi hj hli hlj hki hkj=>?_ }
 . have hx2 : x.block < w.heap.size := YE hx s.size;rw [s'.old x hx2 fun hg'=>(hG _ hg').elim (fun h1=>absurd hx (Y1T.2 h1)) hg];exact s.old x hx hg
 . rw [s'.kept k (YE hk s.size) fun hg' => (hG _ hg').elim (fun h1 => absurd hk (Y1T.2 h1)) hg];exact s.kept k hk hg
 . by_cases hid : i = id
   . subst hid;rw [X1.upd_same] at hi;cases hi;obtain⟨loc',g1,g2,g3⟩:=s'.live 0 b' hb';obtain rfl:loc'=loc:=by rw [hφ0] at g1; simpa using g1.symm
     exact⟨loc',hloc,g2.names hpb',fun k hk=>⟨(hhas k hk).1,(g3 k hk).2⟩⟩
   . rw [X1.upd_ne _ _ hid] at hi;obtain⟨li,g1,g2,g3⟩:=s.live i bi hi;have hout:∀ k,li.has k->¬ C1.G k:=fun k hk hg=>hid (s.sep i id bi b li loc k hi hb g1 hloc hk hg);have hblk:∀ k,li.has k->w'.heap[k]?=w.heap[k]?:=fun k hk=>s'.kept k (s.has_lt hi g1 hk) (hout k hk);refine⟨li,g1,g2.mono s'.ext (fun _ _ h=>h) hblk,fun k hk=>⟨(g3 k hk).1,fun x hx=>?_⟩⟩;rw [s'.old x (by rw [hx]; exact s.has_lt hi g1 hk) (by rw [hx]; exact hout k hk)];exact (g3 k hk).2 x hx
 . have conv : ∀ {i : Nat} {bi : Bx}, (h.upd id b') i = some bi -> ∃ b0, h i = some b0 := by
    intro i bi hi;by_cases hid:i=id
    . subst hid; exact⟨b,hb⟩
    . rw [X1.upd_ne _ _ hid] at hi; exact⟨bi,hi⟩
   obtain⟨b1,h1⟩:=conv hi
   obtain⟨b2,h2⟩:=conv hj
   exact s.sep i j b1 b2 li lj k h1 h2 hli hlj hki hkj
theorem X2v.frame {f:FuncId} {b:Bx} {args:Nat->List PV} {R:PV->Bx->Prop} (hs:X2v P f args b R) (hm:MkL args) (hpb:X2 b.elems) {id:Nat} (hb:h id=some b) :
 XX P f n (args id) h fun n' r h'=>∃ b',n'=n/\h'=h.upd id b'/\r.pure/\X2 b'.elems/\R r b':=by
 refine⟨hs.1,fun C e F φ a w vs s hv=>(hs.run hm hpb hb s hv).mono ?_⟩;rintro en w' ⟨v,r,b',F',rfl,⟨h1,h2,h3⟩,hvr,s'⟩;exact⟨v,r,n,_,F',φ,rfl,⟨b',rfl,rfl,h1,h2,h3⟩,hvr,s'⟩
theorem X2v.prun {g:FuncId} {b:Bx} {args:Nat->List PV} {R:PV->Bx->Prop} (hs:X2v P g args b R) (hm:MkL args) (hpb:X2 b.elems) (id:Nat):X6s P g id b (args id) R:=⟨hs.1,fun hb s hv=>hs.run hm hpb hb s hv⟩
theorem ZkJ {f:Operand} {args':List Operand} {g:FuncId} {caps as0:List PV} {args:Nat->List PV} {b:Bx} (id:Nat) {R:PV->Bx->Prop} (hs:X2v P g args b R) (hm:MkL args) (hf:ev e f=some (.fn g caps)) (ha:evs e args'=some as0) (hr:as0++caps=args id) (hb:h id=some b) (hpb:X2 b.elems)
 (hk:∀ r b',r.pure->X2 b'.elems->R r b'->Xk P os n (Xy e d r) (h.upd id b') K):Xk P (⟨d,.call f args',none⟩ :: os) n e h K:=by
 refine Z1d hf ha (R:=fun n' r h'=>∃ b',n'=n/\h'=h.upd id b'/\r.pure/\X2 b'.elems/\R r b') (by rw [hr]; exact hs.frame hm hpb hb) ?_;rintro n' r h' ⟨b',rfl,rfl,h1,h2,h3⟩;exact hk r b' h1 h2 h3
theorem Z7f {f nt:Nat} {ac:X4} {rs:List X27} (hf:X3R P f nt ac rs) {b:Bx} {args:Nat->List PV} {R:PV->Bx->Prop} (hn:(args 0).length<=nt) (hk:∀ C:Ctx,C.dom 1->aw P C ac (X5w rs fun _ r h'=>∃ b',h' 0=some b'/\r.pure/\X2 b'.elems/\R r b') 1 (XQ (args 0)) (XE [(0,b)])):X2v P f args b R :=
 Z1y hf hn hk
end
def Xi (kd:IntKind) (l:List Nat):List PV:=l.map fun (x:Nat)=>.val (.int kd (x:Int))
theorem ZJ (kd:IntKind) (l:List Nat):(Xi kd l).length=l.length:=by simp [Xi]
theorem ZN (kd:IntKind) (l:List Nat):X6 (Xi kd l):=(Z1h _ _).2 fun p hp=>by
 obtain⟨x,_,rfl⟩:=Y0i.1 hp;exact Yt
theorem Z1D {a b:List PV} (ha:X6 a) (hb:X6 b):X6 (a++b):=(Z1h _ _).2 fun p hp=>(Y0h.1 hp).elim ((Z1h _ _).1 ha p) ((Z1h _ _).1 hb p)
theorem X6T (l:List PV) (off:Nat) (h:off<l.length):X1a false 1 off l=some (l.getD off pvu):=by
 unfold X1a;rw [Y5 (by omega),Y1C h,Y0b,Y0c h]
 rfl
theorem Zgh {kd:IntKind} {L:List Nat} {j:Nat} (hj:j<L.length) (pre post:List PV):(pre++(Xi kd L++post)).getD (pre.length+j) pvu=.val (.int kd ((g0 L j:Nat):Int)):=by
 have h2:j<(Xi kd L).length:=by rw [ZJ]; exact hj
 rw [Y0b,YH (by omega),Y2V,YG h2];unfold Xi g0;simp [Y0b,hj]
theorem Z7g (l:List PV) (off:Nat) (v:PV) (h:off<l.length):Xj l off [v]=l.set off v:=by
 unfold Xj;rw [List.set_eq_take_append_cons_drop,Y5 h];simp
theorem Zi7 {kd:IntKind} {L:List Nat} {j x:Nat} (hj:j<L.length) (pre post:List PV):Xj (pre++(Xi kd L++post)) (pre.length+j) [.val (.int kd (x:Int))]=pre++(Xi kd (L.set j x)++post):=by
 have h2:j<(Xi kd L).length:=by rw [ZJ]; exact hj
 rw [Z7g _ _ _ (by rw [Y0e,Y0e];omega),Y3Z _ _ (by omega),Y2V,List.set_append_left _ _ h2];unfold Xi;rw [Y4p]
section
variable {kd:IntKind} {e:Env} {h:X1} {n k o j:Nat} {Eb:Nat} {L:List Nat} {pre post:List PV}
theorem Z3D {a:Operand} (ha:ev e a=some (.ptr k 0 (o+j))) (hb:h k=some ⟨Eb,[pre++(Xi kd L++post)]⟩) (ho:pre.length=o) (hj:j<L.length):X3 (.load false 1 a) e h n=some (.val (.int kd ((g0 L j:Nat):Int)),h):=by
 subst ho;have hl:pre.length+j<(pre++(Xi kd L++post)).length:=by rw [Y0e,Y0e,ZJ]; omega
 exact Z2p ha hb Y1K (by
  show X1a false 1 _ (pre++(Xi kd L++post))=_
  rw [X6T _ _ hl,Zgh hj])
theorem Z9e {a v:Operand} {x:Nat} (ha:ev e a=some (.ptr k 0 (o+j))) (hv:ev e v=some (.val (.int kd (x:Int)))) (hb:h k=some ⟨Eb,[pre++(Xi kd L++post)]⟩) (ho:pre.length=o) (hj:j<L.length) (hE:o+L.length<=Eb) :
 X3 (.store 1 a v) e h n=some (pvu,h.upd k ⟨Eb,[pre++(Xi kd (L.set j x)++post)]⟩):=by
 subst ho;have:=Z1T (n:=n) (size:=1) ha hv hb rfl rfl (show 0<1 by decide) (by show pre.length+j+1<=Eb;omega);rw [this];simp only;have e1:([pre++(Xi kd L++post)]:List (List PV)).set 0 (Xj (([pre++(Xi kd L++post)]:List (List PV)).getD 0 []) (pre.length+j) (PV.val (.int kd (x:Int))).cells) = [pre++(Xi kd (L.set j x)++post)]:=by
  show [Xj (pre++(Xi kd L++post)) (pre.length+j) [.val (.int kd (x:Int))]]=_;rw [Zi7 hj]
 rw [e1]
theorem Z30 {x i:Operand} {i0 n0:Nat} {kk:IntKind} {m:Int} (hx:ev e x=some (.ptr k i0 o)) (hi:ev e i=some (.val (.int kk m))) (j:Nat) (hm:m=(j:Int)) (hj:j<n0):X3 (.iaddrA n0 1 x i) e h n=some (.ptr k i0 (o+j),h):=by
 subst hm;simp only [X3,hx,hi];rw [Y5 ⟨by omega,by omega⟩];simp
theorem ZkK {x i:Operand} {n0:Nat} {kk:IntKind} {m:Int} {l:List PV} (hx:ev e x=some (.agg l)) (hi:ev e i=some (.val (.int kk m))) (j:Nat) (hm:m=(j:Int)) (hj:j<n0) (hl:l.length=n0):X3 (.indexA false n0 1 x i) e h n=some (l.getD j pvu,h):=by
 subst hm;simp only [X3,hx,hi];rw [Y5 ⟨by omega,by omega⟩];simp only [Y11,Y26];rw [X6T _ _ (by omega)]
end
def W64 (l:List Nat):Prop:=∀ w∈l,w<18446744073709551616
theorem ZiN {l:List Nat} {i:Nat} (h:i<l.length):g0 l i∈l:=by
 unfold g0;rw [Y0b,Y0c h];exact Y0j h
theorem W64.g {l:List Nat} (h:W64 l) (i:Nat):g0 l i<18446744073709551616:=by
 by_cases hi:i<l.length
 . exact h _ (ZiN hi)
 . unfold g0;rw [Y0b,Y2B (by omega)]
   decide
theorem W64.set {l:List Nat} (h:W64 l) {i x:Nat} (hx:x<18446744073709551616):W64 (l.set i x):=fun w hw=>by
 rcases Y1R hw with hw|rfl
 . exact h w hw
 . exact hx
theorem Z1b {a b:Nat} (ha:a<18446744073709551616) (hb:b<18446744073709551616):a ^^^ b<18446744073709551616:=Y4g (n:=64) ha hb
theorem Zgi {a b:Nat} (ha:a<18446744073709551616) (hb:b<18446744073709551616):a ||| b<18446744073709551616:=Y2l (n:=64) ha hb
theorem ZbS {x s:Nat} (hx:x<18446744073709551616):X5p x s<18446744073709551616 :=
 Zgi (Y1l _ (by decide)) (Y02 (Y4E ..) hx)
theorem X5m (N j:Nat) (h:j<=64):Int.fdiv (N:Int) (2 ^ (min ((j:Nat):Int).toNat IntKind.u64.bits))=((N / 2 ^ j:Nat):Int):=by
 have hb:IntKind.u64.bits=64:=rfl;rw [Y11,hb,Y1B h,Y3r _ (Int.pow_nonneg (by decide))];rw [show (2:Int) ^ j=((2 ^ j:Nat):Int) by rw [Y4G]; rfl];exact (Int.natCast_ediv ..).symm
theorem X5g (N j:Nat) (h:j<=64):IntKind.u64.wrap ((N:Int)*2 ^ (min ((j:Nat):Int).toNat IntKind.u64.bits))=((N*2 ^ j % 18446744073709551616:Nat):Int):=by
 have hb:IntKind.u64.bits=64:=rfl;rw [Y11,hb,Y1B h,Y3e];rw [show (2:Int) ^ j=((2 ^ j:Nat):Int) by rw [Y4G]; rfl,<- Int.natCast_mul]
 rfl
theorem Zag (x s:Nat) (hx:x<18446744073709551616) (hs:s<64):Xa Tryz.prog 222 [.val (.int .u64 (x:Int)),.val (.int .i64 (s:Int))] (· = .val (.int .u64 ((X5p x s:Nat):Int))):=by
 refine Yp ok222 fun C hC=>?_;refine gd 7 ⟨?_⟩;refine Zh (v:=(s:Int)) rfl rfl rfl (by exact Y0x _ ⟨by omega,by omega⟩) ?_
 refine Zh (v:=(s:Int)) rfl rfl rfl (by
  have h1:=Y28 s 63 (by omega) (by decide);have h2:s &&& 63=s:=by
   have:=Nat.and_two_pow_sub_one_eq_mod s 6;rw [show (2:Nat) ^ 6-1=63 by decide] at this;rw [this]; exact Y1m hs
  rw [h2] at h1
  exact h1) ?_
 refine gd 11 ⟨?_⟩;refine Z4R rfl rfl (by omega) (X5g x s (by omega)) rfl ?_;refine gd 14 ⟨?_⟩
 refine Zh (v:=((64-s:Nat):Int)) rfl rfl rfl (by
  rw [show (64:Int)-(s:Int)=((64-s:Nat):Int) by omega]
  exact Y0x _ ⟨by omega,by omega⟩) ?_
 refine Z3j rfl rfl (by omega) (X5m x (64-s) (by omega)) rfl ?_;refine Zh (v:=((X5p x s:Nat):Int)) rfl rfl rfl (Y1S _ _ (Y1l _ (by decide)) (Y02 (Y4E ..) hx)) ?_;refine go ?_;exact Z8 rfl Yt rfl
theorem wi (n:Nat) (h:n<1000000):IntKind.i64.wrap ((n:Nat):Int)=(n:Int):=Y0v _ ⟨by omega,by omega⟩
theorem Zlk {a:List Nat} (h:W64 a) (x:Nat):kkC a x<18446744073709551616:=Z1b (Z1b (Z1b (Z1b (h.g _) (h.g _)) (h.g _)) (h.g _)) (h.g _)
theorem ZjA {a:List Nat} (h:W64 a):W64 (kCs a):=fun w hw=>by
 obtain⟨x,_,rfl⟩:=Y0i.1 hw;exact Zlk h x
theorem ZkL {c:List Nat} (h:W64 c) (x:Nat):kkD c x<18446744073709551616:=Z1b (h.g _) (ZbS (h.g _))
theorem Z9f {a c:List Nat} (ha:W64 a) (hc:W64 c):∀ m,W64 (X2r a c m)
 | 0=>fun w hw=>by rw [Y1p hw]; decide
 | m+1=>(Z9f ha hc m).set (ZbS (Z1b (ha.g _) (ZkL hc _)))
theorem Z7h (a c:List Nat):∀ m,(X2r a c m).length=25
 | 0=>rfl
 | m+1=>by show (List.set ..).length=25; rw [Y14,Z7h a c m]
theorem ZjB {b:List Nat} (h:W64 b) (i:Nat):X53 b i<18446744073709551616:=Z1b (h.g _) (Y02 Y29 (h.g _))
theorem Zd7 (b:List Nat):(X4z b).length=25:=by simp [X4z]
theorem Zgj {b:List Nat} (h:W64 b):W64 (X4z b):=fun w hw=>by
 obtain⟨x,_,rfl⟩:=Y0i.1 hw;exact ZjB h x
theorem Zef (a:List Nat) (rc:Nat):(X3K a rc).length=25:=by show (List.set ..).length=25; rw [Y14,Zd7]
theorem Zi8 {a:List Nat} (h:W64 a) {rc:Nat} (hr:rc<18446744073709551616):W64 (X3K a rc) :=
 (Zgj (Z9f h (ZjA h) 25)).set (Z1b ((Zgj (Z9f h (ZjA h) 25)).g _) hr)
theorem ZkM:∀ m,m<24->(XS.getD m 0).toNat<18446744073709551616:=by decide
theorem ZkN:∀ m,m<24->(((XS.getD m 0).toNat:Nat):Int)=XS.getD m 0:=by decide
theorem Zah {a:List Nat} (ha:a.length=25):∀ m,(X3l a m).length=25
 | 0=>ha
 | m+1=>Zef _ _
theorem ZbT {a:List Nat} (ha:W64 a):∀ m,m<=24->W64 (X3l a m)
 | 0,_=>ha
 | m+1,h=>Zi8 (ZbT ha m (by omega)) (ZkM m (by omega))
def rdL:List PV:=XS.map fun x=>.val (.int .u64 x)
theorem Z1M:X6 rdL:=(Z1h _ _).2 fun p hp=>by
 obtain⟨x,_,rfl⟩:=Y0i.1 hp;exact Yt
theorem ZjC {m:Nat} (h:m<24):rdL.getD m pvu=.val (.int .u64 (((XS.getD m 0).toNat:Nat):Int)):=by
 rw [ZkN m h];have hl:m<XS.length:=h;unfold rdL;simp [Y0b,hl]
def X2e (a:List Nat) (x:Nat):List Nat:=(List.range 5).map fun i=>if i<x then kkC a i else 0
theorem Zai (a:List Nat) (x:Nat):(X2e a x).length=5:=by simp [X2e]
theorem Z41 (f:Nat->Nat) {n i:Nat} (h:i<n):g0 ((List.range n).map f) i=f i:=by
 unfold g0;simp [Y0b,h]
theorem Z5G {l m:List Nat} (hl:l.length=m.length) (h:∀ x,x<l.length->g0 l x=g0 m x):l=m:=by
 refine Y4v hl fun i h1 h2=>?_;have:=h i h1;unfold g0 at this;simpa [Y0b,h1,h2] using this
theorem Zgk (L:List Nat) (j x y:Nat):g0 (L.set j x) y=if y=j/\j<L.length then x else g0 L y:=by
 unfold g0;simp only [Y0b,YW];by_cases h:j=y
 . subst h;by_cases hj:j<L.length
   . simp [hj]
   . simp [hj]
 . rw [Y6 h,Y6 (fun c=>h c.1.symm)]
theorem Zeg (a:List Nat) {x:Nat} (h:x<5):(X2e a x).set x (kkC a x)=X2e a (x+1):=Z5G (by simp [X2e]) fun i hi=>by
 have hi:i<5:=by simpa [X2e] using hi
 rw [Zgk,Zai];unfold X2e;rw [Z41 _ hi,Z41 _ hi];by_cases hx:i=x
 . subst hx; rw [Y5 ⟨rfl,h⟩,Y5 (by omega)]
 . rw [Y6 (fun c => hx c.1)];by_cases hlt:i<x
   . rw [Y5 hlt,Y5 (by omega)]
   . rw [Y6 hlt,Y6 (by omega)]
theorem Zgl (a:List Nat):X2e a 5=kCs a:=Z5G (by simp [X2e,kCs]) fun i hi=>by
 have hi:i<5:=by simpa [X2e] using hi
 unfold X2e kCs;rw [Z41 _ hi,Z41 _ hi,Y5 hi]
def X1C (b a:List Nat) (k:Nat):List Nat:=(List.range 25).map fun i=>if i<k then X53 b i else g0 a i
theorem Zaj (b a:List Nat) (k:Nat):(X1C b a k).length=25:=by simp [X1C]
theorem Zeh (b:List Nat) {a:List Nat} (ha:a.length=25):X1C b a 0=a:=Z5G (by simp [X1C,ha]) fun i hi=>by
 have hi:i<25:=by simpa [X1C] using hi
 unfold X1C;rw [Z41 _ hi,Y6 (by omega)]
theorem Zgm (b a:List Nat):X1C b a 25=X4z b:=Z5G (by simp [X1C,X4z]) fun i hi=>by
 have hi:i<25:=by simpa [X1C] using hi
 unfold X1C X4z;rw [Z41 _ hi,Z41 _ hi,Y5 hi]
theorem Zei (b a:List Nat) {k:Nat} (h:k<25):(X1C b a k).set k (X53 b k)=X1C b a (k+1):=Z5G (by simp [X1C]) fun i hi=>by
 have hi:i<25:=by simpa [X1C] using hi
 rw [Zgk,Zaj];unfold X1C;rw [Z41 _ hi,Z41 _ hi];by_cases hx:i=k
 . subst hx; rw [Y5 ⟨rfl,h⟩,Y5 (by omega)]
 . rw [Y6 (fun c => hx c.1)];by_cases hlt:i<k
   . rw [Y5 hlt,Y5 (by omega)]
   . rw [Y6 hlt,Y6 (by omega)]
def trL:List PV:=X1P.map fun x=>.val (.int .i64 x)
theorem ZkO:∀ m,m<25->((kkT m:Nat):Int)=X1P.getD m 0:=by decide
theorem Zll:∀ m,m<25->kkT m<64:=by decide
theorem Zi9 {m:Nat} (h:m<25):∃ r,trL.drop m=.val (.int .i64 ((kkT m:Nat):Int)) :: r:=by
 have hl:m<trL.length:=h;have hl2:m<X1P.length:=h;refine⟨trL.drop (m+1),?_⟩;rw [Y1C hl,ZkO m h];congr 1;unfold trL;simp [Y0b,hl2];exact Y3K ..
theorem Zlm {e:Env} {h:X1} {n:Nat} {x i:Operand} {n0:Nat} {kk:IntKind} {m:Int} {l:List PV} (hx:ev e x=some (.cp l)) (hi:ev e i=some (.val (.int kk m))) (j:Nat) (hm:m=(j:Int)) (hj:j<n0):X3 (.iaddrA n0 1 x i) e h n=some (.cp (l.drop j),h):=by
 subst hm;simp only [X3,hx,hi];rw [Y5 ⟨by omega,by omega⟩];simp
theorem Zln {e:Env} {h:X1} {n:Nat} {a:Operand} {l r:List PV} {v:PV} (ha:ev e a=some (.cp l)) (hl:l=v :: r):X3 (.load false 1 a) e h n=some (v,h):=by
 subst hl;simp [X3,ha,X1a]
theorem ZjD {e:Env} {h:X1} {n:Nat} {x:Operand} {w:Nat} (hx:ev e x=some (.val (.int .u64 (w:Int)))) (hw:w<18446744073709551616):X3 (.una .xor x) e h n=some (.val (.int .u64 ((18446744073709551615 ^^^ w:Nat):Int)),h):=by
 have:=Y1y 18446744073709551615 w (by decide) hw;simp only [X3,hx];show (match (some (PV.val (.int .u64 (bits .xor .u64 ((18446744073709551615:Nat):Int) (w:Int)))):Option PV) with|some r=>some (r,h)|none=>none)=_;rw [this]
theorem Z42 {kd:IntKind} {l:List Nat} {rest:List PV} (hr:X6 rest):X2 [Xi kd l++rest]:=⟨Z1D (ZN kd l) hr,Yt⟩
theorem X1i {D:Nat->Prop} {kd:IntKind} {l:List Nat} {rest:List PV} (hr:X6 rest):Xu D [Xi kd l++rest]:=Ze (fun _ h=>h.elim) _ (Z42 hr)
theorem Zak (Eb:Nat) (hE:25<=Eb) (a:List Nat) (ha:a.length=25) (hw:W64 a) (rest:List PV) (hr:X6 rest):X2f Tryz.prog 216 ⟨Eb,[Xi .u64 a++rest]⟩ [] (fun r b'=>b'=⟨Eb,[Xi .u64 (perm a)++rest]⟩):=by
 refine Z1O ok216 (Y0 rfl) fun C hC=>?_;refine go ?_;refine ZB hC (fun m=>m<=24) (fun m=>24-m) 1 (fun m => [(0,.ptr 0 0 0),(12,.agg rdL),(13,.val (.int .i64 (m:Int)))]) (fun m => [(0,⟨Eb,[Xi .u64 (X3l a m)++rest]⟩)]) (by decide) 0 (Y0l _)
  ⟨⟨rfl,show 0<1 by decide⟩,⟨rfl,ZI (fun _ h=>h.elim) _ Z1M⟩,⟨rfl,Yt⟩,Yt⟩ ⟨⟨by decide,rfl,X1i hr⟩,Yt⟩ ?_
 intro m hm;have hAl:=Zah ha m;have hAw:=ZbT hw m hm;generalize hAA:X3l a m=A at hAl hAw;have hinc:IntKind.i64.wrap ((m:Int)+1)=((m+1:Nat):Int):=wi (m+1) (by omega);refine gd 14 ⟨?_⟩;by_cases hml:m<24
 . refine Qo (Qy rfl (by omega)) ?_;have hrc:=ZkM m hml;refine gd 15 ⟨?_⟩;refine Qo (ZkK rfl rfl m rfl hml rfl) ?_;rw [ZjC hml];generalize hrr:(XS.getD m 0).toNat=rc at hrc;refine go ?_;refine ZB hC (fun x=>x<=5) (fun x=>5-x) 2 (fun x => [(0,.ptr 0 0 0),(3,.val (.int .u64 (rc:Int))),(4,.ptr 1 0 0),(12,.agg rdL),(13,.val (.int .i64 (m:Int))),(16,.val (.int .i64 (x:Int)))]) (fun x => [(0,⟨Eb,[Xi .u64 A++rest]⟩),(1,⟨5,[Xi .u64 (X2e A x) ++ []]⟩)]) (by decide) 0 (Y0l _)
    ⟨⟨rfl,show 0<2 by decide⟩,⟨rfl,Yt⟩,⟨rfl,show 1<2 by decide⟩,⟨rfl,ZI (fun _ h=>h.elim) _ Z1M⟩,⟨rfl,Yt⟩,⟨rfl,Yt⟩,Yt⟩ ⟨⟨by decide,rfl,X1i hr⟩,⟨by decide,rfl,X1i Yt⟩,Yt⟩ ?_
   intro x hx;have hinx:IntKind.i64.wrap ((x:Int)+1)=((x+1:Nat):Int):=wi (x+1) (by omega);refine gd 17 ⟨?_⟩;by_cases hxl:x<5
   . refine Qo (Qy rfl (by omega)) ?_;have cl:=Zai A x;refine gd 23 ⟨?_⟩;refine Qr (Z30 rfl rfl x rfl (by omega)) ?_;refine Qr (Z3D (kd:=.u64) (L:=A) (pre := []) (post:=rest) (o:=0) rfl rfl rfl (by omega)) ?_;refine gd 27 ⟨?_⟩;refine Qr (ZS (v:=((x+5:Nat):Int)) rfl (wi (x+5) (by omega))) ?_;refine gd 29 ⟨?_⟩;refine Qr (Z30 rfl rfl (x+5) rfl (by omega)) ?_;refine Qr (Z3D (kd:=.u64) (L:=A) (pre := []) (post:=rest) (o:=0) rfl rfl rfl (by omega)) ?_;refine Qr (ZS rfl (Y1y _ _ (hAw.g _) (hAw.g _))) ?_;refine gd 34 ⟨?_⟩;refine Qr (ZS (v:=((x+10:Nat):Int)) rfl (wi (x+10) (by omega))) ?_;refine gd 36 ⟨?_⟩;refine Qr (Z30 rfl rfl (x+10) rfl (by omega)) ?_;refine Qr (Z3D (kd:=.u64) (L:=A) (pre := []) (post:=rest) (o:=0) rfl rfl rfl (by omega)) ?_;refine Qr (ZS rfl (Y1y _ _ (Z1b (hAw.g _) (hAw.g _)) (hAw.g _))) ?_;refine gd 41 ⟨?_⟩;refine Qr (ZS (v:=((x+15:Nat):Int)) rfl (wi (x+15) (by omega))) ?_;refine gd 43 ⟨?_⟩;refine Qr (Z30 rfl rfl (x+15) rfl (by omega)) ?_;refine Qr (Z3D (kd:=.u64) (L:=A) (pre := []) (post:=rest) (o:=0) rfl rfl rfl (by omega)) ?_;refine Qr (ZS rfl (Y1y _ _ (Z1b (Z1b (hAw.g _) (hAw.g _)) (hAw.g _)) (hAw.g _))) ?_;refine gd 48 ⟨?_⟩;refine Qr (ZS (v:=((x+20:Nat):Int)) rfl (wi (x+20) (by omega))) ?_;refine gd 50 ⟨?_⟩;refine Qr (Z30 rfl rfl (x+20) rfl (by omega)) ?_;refine Qr (Z3D (kd:=.u64) (L:=A) (pre := []) (post:=rest) (o:=0) rfl rfl rfl (by omega)) ?_;refine Qr (ZS (v:=((kkC A x:Nat):Int)) rfl (Y1y _ _ (Z1b (Z1b (Z1b (hAw.g _) (hAw.g _)) (hAw.g _)) (hAw.g _)) (hAw.g _))) ?_;refine Qr (Z30 rfl rfl x rfl hxl) ?_;refine Qr (Z9e (kd:=.u64) (L:=X2e A x) (x:=kkC A x) (pre := []) (post := []) (o:=0) rfl rfl rfl rfl (by omega) (by omega)) ?_;rw [Zeg A hxl];refine go ?_;exact⟨x+1,by omega,by omega,⟨⟨rfl,show 0<2 by decide⟩,⟨rfl,Yt⟩,⟨rfl,show 1<2 by decide⟩,⟨rfl,ZI (fun _ h=>h.elim) _ Z1M⟩,⟨rfl,Yt⟩,⟨by show some _=some _; rw [hinx],Yt⟩,Yt⟩,⟨⟨by decide,rfl,X1i hr⟩,⟨by decide,rfl,X1i Yt⟩,Yt⟩⟩
   . obtain rfl : x = 5 := by omega
     refine Qo (Qz rfl (by omega)) ?_;rw [Zgl];have hcw:=ZjA hAw;have hcl:(kCs A).length=5:=by simp [kCs]
     generalize hcc:kCs A=cs at hcw hcl;refine go ?_;refine ZB hC (fun x=>x<=5) (fun x=>5-x) 3 (fun x => [(0,.ptr 0 0 0),(3,.val (.int .u64 (rc:Int))),(4,.ptr 1 0 0),(6,.ptr 2 0 0),(12,.agg rdL),(13,.val (.int .i64 (m:Int))),(55,.val (.int .i64 (x:Int)))]) (fun x => [(0,⟨Eb,[Xi .u64 A++rest]⟩),(1,⟨5,[Xi .u64 cs ++ []]⟩),(2,⟨25,[Xi .u64 (X2r A cs (5*x)) ++ []]⟩)]) (by decide) 0 (Y0l _)
      ⟨⟨rfl,show 0<3 by decide⟩,⟨rfl,Yt⟩,⟨rfl,show 1<3 by decide⟩,⟨rfl,show 2<3 by decide⟩,⟨rfl,ZI (fun _ h=>h.elim) _ Z1M⟩,⟨rfl,Yt⟩,⟨rfl,Yt⟩,Yt⟩ ⟨⟨by decide,rfl,X1i hr⟩,⟨by decide,rfl,X1i Yt⟩,⟨by decide,rfl,X1i Yt⟩,Yt⟩ ?_
     intro x hx;have hinx:IntKind.i64.wrap ((x:Int)+1)=((x+1:Nat):Int):=wi (x+1) (by omega);refine gd 56 ⟨?_⟩;by_cases hxl:x<5
     . refine Qo (Qy rfl (by omega)) ?_;refine gd 59 ⟨?_⟩;refine Qr (ZS (v:=((x+4:Nat):Int)) rfl (wi (x+4) (by omega))) ?_;refine Qr (ZS (v:=(((x+4) % 5:Nat):Int)) rfl (Y2J (x+4) 5).symm) ?_;refine Qr (Z30 rfl rfl ((x+4) % 5) rfl (by omega)) ?_;refine Qr (Z3D (kd:=.u64) (L:=cs) (pre := []) (post := []) (o:=0) rfl rfl rfl (by omega)) ?_;refine gd 64 ⟨?_⟩;refine Qr (ZS (v:=((x+1:Nat):Int)) rfl (wi (x+1) (by omega))) ?_;refine Qr (ZS (v:=(((x+1) % 5:Nat):Int)) rfl (Y2J (x+1) 5).symm) ?_;refine Qr (Z30 rfl rfl ((x+1) % 5) rfl (by omega)) ?_;refine Qr (Z3D (kd:=.u64) (L:=cs) (pre := []) (post := []) (o:=0) rfl rfl rfl (by omega)) ?_;refine Qd (Zag (g0 cs ((x+1) % 5)) 1 (hcw.g _) (by decide)) ⟨Yt,Yt,Yt⟩ ?_;refine Qr (ZS (v:=((kkD cs x:Nat):Int)) rfl (Y1y _ _ (hcw.g _) (ZbS (hcw.g _)))) ?_;have hkd:=ZkL hcw x;refine go ?_;refine ZB hC (fun y=>y<=5) (fun y=>5-y) 3 (fun y => [(0,.ptr 0 0 0),(3,.val (.int .u64 (rc:Int))),(4,.ptr 1 0 0),(6,.ptr 2 0 0),(7,.val (.int .i64 (x:Int))),(8,.val (.int .u64 ((kkD cs x:Nat):Int))),(12,.agg rdL),(13,.val (.int .i64 (m:Int))),(55,.val (.int .i64 (x:Int))),(70,.val (.int .i64 (y:Int)))]) (fun y => [(0,⟨Eb,[Xi .u64 A++rest]⟩),(1,⟨5,[Xi .u64 cs ++ []]⟩),(2,⟨25,[Xi .u64 (X2r A cs (5*x+y)) ++ []]⟩)]) (by decide) 0 (Y0l _)
        ⟨⟨rfl,show 0<3 by decide⟩,⟨rfl,Yt⟩,⟨rfl,show 1<3 by decide⟩,⟨rfl,show 2<3 by decide⟩,⟨rfl,Yt⟩,⟨rfl,Yt⟩,⟨rfl,ZI (fun _ h=>h.elim) _ Z1M⟩,⟨rfl,Yt⟩,⟨rfl,Yt⟩,⟨rfl,Yt⟩,Yt⟩ ⟨⟨by decide,rfl,X1i hr⟩,⟨by decide,rfl,X1i Yt⟩,⟨by decide,rfl,X1i Yt⟩,Yt⟩ ?_
       intro y hy;have hiny:IntKind.i64.wrap ((y:Int)+1)=((y+1:Nat):Int):=wi (y+1) (by omega);refine gd 71 ⟨?_⟩;by_cases hyl:y<5
       . refine Qo (Qy rfl (by omega)) ?_;have bl1:=Z7h A cs (5*x+y);have d1:(5*x+y) / 5=x:=by omega
         have d2:(5*x+y) % 5=y:=by omega
         have hbs:(X2r A cs (5*x+y)).set (y+5*((2*x+3*y) % 5)) (X5p (g0 A (x+5*y) ^^^ kkD cs x) (kkT (x+5*y)))=X2r A cs (5*x+(y+1)):=by
          show _=X5x A cs (X2r A cs (5*x+y)) (5*x+y);unfold X5x;rw [d1,d2]
         obtain⟨tr,htr⟩:=Zi9 (show x+5*y<25 by omega);refine gd 75 ⟨?_⟩;refine Qr (ZS (v:=((2*x:Nat):Int)) rfl (wi (2*x) (by omega))) ?_;refine gd 77 ⟨?_⟩;refine Qr (ZS (v:=((3*y:Nat):Int)) rfl (wi (3*y) (by omega))) ?_;refine Qr (ZS (v:=((2*x+3*y:Nat):Int)) rfl (wi (2*x+3*y) (by omega))) ?_;refine Qr (ZS (v:=(((2*x+3*y) % 5:Nat):Int)) rfl (Y2J (2*x+3*y) 5).symm) ?_;refine Qr (ZS (v:=((5*((2*x+3*y) % 5):Nat):Int)) rfl (wi (5*((2*x+3*y) % 5)) (by omega))) ?_;refine Qr (ZS (v:=((y+5*((2*x+3*y) % 5):Nat):Int)) rfl (wi (y+5*((2*x+3*y) % 5)) (by omega))) ?_;refine gd 85 ⟨?_⟩;refine Qr (ZS (v:=((5*y:Nat):Int)) rfl (wi (5*y) (by omega))) ?_;refine Qr (ZS (v:=((x+5*y:Nat):Int)) rfl (wi (x+5*y) (by omega))) ?_;refine gd 88 ⟨?_⟩;refine Qr (Z30 rfl rfl (x+5*y) rfl (by omega)) ?_;refine Qr (Z3D (kd:=.u64) (L:=A) (pre := []) (post:=rest) (o:=0) rfl rfl rfl (by omega)) ?_;refine gd 91 ⟨?_⟩;refine Qr (ZS (v:=((g0 A (x+5*y) ^^^ kkD cs x:Nat):Int)) rfl (Y1y _ _ (hAw.g _) hkd)) ?_;refine gd 94 ⟨?_⟩;refine Qr (ZS (v:=((5*y:Nat):Int)) rfl (wi (5*y) (by omega))) ?_;refine Qr (ZS (v:=((x+5*y:Nat):Int)) rfl (wi (x+5*y) (by omega))) ?_;refine Qr (Zlm (l:=trL) rfl rfl (x+5*y) rfl (by omega)) ?_;refine Qr (Zln rfl htr) ?_;refine Qd (Zag (g0 A (x+5*y) ^^^ kkD cs x) (kkT (x+5*y)) (Z1b (hAw.g _) hkd) (Zll _ (by omega))) ⟨Yt,Yt,Yt⟩ ?_;refine Qr (Z30 rfl rfl (y+5*((2*x+3*y) % 5)) rfl (by omega)) ?_;refine Qr (Z9e (kd:=.u64) (L:=X2r A cs (5*x+y)) (x:=X5p (g0 A (x+5*y) ^^^ kkD cs x) (kkT (x+5*y))) (pre := []) (post := []) (o:=0) rfl rfl rfl rfl (by omega) (by omega)) ?_;rw [hbs];refine go ?_;exact⟨y+1,by omega,by omega,⟨⟨rfl,show 0<3 by decide⟩,⟨rfl,Yt⟩,⟨rfl,show 1<3 by decide⟩,⟨rfl,show 2<3 by decide⟩,⟨rfl,Yt⟩,⟨rfl,Yt⟩,⟨rfl,ZI (fun _ h=>h.elim) _ Z1M⟩,⟨rfl,Yt⟩,⟨rfl,Yt⟩,⟨by show some _=some _; rw [hiny],Yt⟩,Yt⟩,⟨⟨by decide,rfl,X1i hr⟩,⟨by decide,rfl,X1i Yt⟩,⟨by decide,rfl,X1i Yt⟩,Yt⟩⟩
       . obtain rfl : y = 5 := by omega
         refine Qo (Qz rfl (by omega)) ?_;refine go ?_;exact⟨x+1,by omega,by omega,⟨⟨rfl,show 0<3 by decide⟩,⟨rfl,Yt⟩,⟨rfl,show 1<3 by decide⟩,⟨rfl,show 2<3 by decide⟩,⟨rfl,ZI (fun _ h=>h.elim) _ Z1M⟩,⟨rfl,Yt⟩,⟨by show some _=some _; rw [hinx],Yt⟩,Yt⟩,⟨⟨by decide,rfl,X1i hr⟩,⟨by decide,rfl,X1i Yt⟩,⟨by decide,rfl,X1i Yt⟩,Yt⟩⟩
     . obtain rfl : x = 5 := by omega
       refine Qo (Qz rfl (by omega)) ?_;have hbl:=Z7h A cs 25;have hbw:=Z9f hAw hcw 25;show Xk _ _ _ _ (XE [(0,⟨Eb,[Xi .u64 A++rest]⟩),(1,⟨5,[Xi .u64 cs ++ []]⟩),(2,⟨25,[Xi .u64 (X2r A cs 25) ++ []]⟩)]) _;generalize hbb:X2r A cs 25=b at hbl hbw;refine go ?_;refine ZB hC (fun q=>q<=5) (fun q=>5-q) 3 (fun q => [(0,.ptr 0 0 0),(3,.val (.int .u64 (rc:Int))),(6,.ptr 2 0 0),(10,.val (.int .i64 ((5*q:Nat):Int))),(12,.agg rdL),(13,.val (.int .i64 (m:Int)))]) (fun q => [(0,⟨Eb,[Xi .u64 (X1C b A (5*q))++rest]⟩),(2,⟨25,[Xi .u64 b ++ []]⟩)]) (by decide) 0 (Y0l _)
        ⟨⟨rfl,show 0<3 by decide⟩,⟨rfl,Yt⟩,⟨rfl,show 2<3 by decide⟩,⟨rfl,Yt⟩,⟨rfl,ZI (fun _ h=>h.elim) _ Z1M⟩,⟨rfl,Yt⟩,Yt⟩ ⟨⟨by decide,by rw [show 5*0=0 by decide,Zeh b hAl]; rfl,X1i hr⟩,⟨by decide,rfl,X1i Yt⟩,Yt⟩ ?_
       intro q hq;have hinq:IntKind.i64.wrap (((5*q:Nat):Int)+5)=((5*(q+1):Nat):Int):=wi (5*q+5) (by omega);refine gd 103 ⟨?_⟩;by_cases hql:q<5
       . refine Qo (Qy rfl (by omega)) ?_;refine go ?_;refine ZB hC (fun x=>x<=5) (fun x=>5-x) 3 (fun x => [(0,.ptr 0 0 0),(3,.val (.int .u64 (rc:Int))),(6,.ptr 2 0 0),(10,.val (.int .i64 ((5*q:Nat):Int))),(12,.agg rdL),(13,.val (.int .i64 (m:Int))),(106,.val (.int .i64 (x:Int)))]) (fun x => [(0,⟨Eb,[Xi .u64 (X1C b A (5*q+x))++rest]⟩),(2,⟨25,[Xi .u64 b ++ []]⟩)]) (by decide) 0 (Y0l _)
          ⟨⟨rfl,show 0<3 by decide⟩,⟨rfl,Yt⟩,⟨rfl,show 2<3 by decide⟩,⟨rfl,Yt⟩,⟨rfl,ZI (fun _ h=>h.elim) _ Z1M⟩,⟨rfl,Yt⟩,⟨rfl,Yt⟩,Yt⟩ ⟨⟨by decide,rfl,X1i hr⟩,⟨by decide,rfl,X1i Yt⟩,Yt⟩ ?_
         intro x hx;have hinx:IntKind.i64.wrap ((x:Int)+1)=((x+1:Nat):Int):=wi (x+1) (by omega);refine gd 107 ⟨?_⟩;by_cases hxl:x<5
         . refine Qo (Qy rfl (by omega)) ?_;have apl:=Zaj b A (5*q+x);have hsum:IntKind.i64.wrap ((x:Int)+((5*q:Nat):Int))=((5*q+x:Nat):Int):=by
            rw [show (x:Int)+((5*q:Nat):Int)=((5*q+x:Nat):Int) by omega];exact wi _ (by omega)
           have e1:(5*q+x) % 5=x:=by omega
           have hchi:X53 b (5*q+x)=g0 b (5*q+x) ^^^ ((18446744073709551615 ^^^ g0 b ((x+1) % 5+5*q)) &&& g0 b ((x+2) % 5+5*q)):=by
            unfold X53;rw [e1,show 5*q+x-x=5*q by omega]
           refine gd 112 ⟨?_⟩;refine Qr (ZS rfl hsum) ?_;refine gd 115 ⟨?_⟩;refine Qr (ZS rfl hsum) ?_;refine Qr (Z30 rfl rfl (5*q+x) rfl (by omega)) ?_;refine Qr (Z3D (kd:=.u64) (L:=b) (pre := []) (post := []) (o:=0) rfl rfl rfl (by omega)) ?_;refine gd 119 ⟨?_⟩;refine Qr (ZS (v:=((x+1:Nat):Int)) rfl (wi (x+1) (by omega))) ?_;refine Qr (ZS (v:=(((x+1) % 5:Nat):Int)) rfl (Y2J (x+1) 5).symm) ?_;refine gd 122 ⟨?_⟩;refine Qr (ZS (v:=(((x+1) % 5+5*q:Nat):Int)) rfl (wi ((x+1) % 5+5*q) (by omega))) ?_;refine Qr (Z30 rfl rfl ((x+1) % 5+5*q) rfl (by omega)) ?_;refine Qr (Z3D (kd:=.u64) (L:=b) (pre := []) (post := []) (o:=0) rfl rfl rfl (by omega)) ?_;refine Qr (ZjD rfl (hbw.g _)) ?_;refine gd 127 ⟨?_⟩;refine Qr (ZS (v:=((x+2:Nat):Int)) rfl (wi (x+2) (by omega))) ?_;refine Qr (ZS (v:=(((x+2) % 5:Nat):Int)) rfl (Y2J (x+2) 5).symm) ?_;refine gd 130 ⟨?_⟩;refine Qr (ZS (v:=(((x+2) % 5+5*q:Nat):Int)) rfl (wi ((x+2) % 5+5*q) (by omega))) ?_;refine Qr (Z30 rfl rfl ((x+2) % 5+5*q) rfl (by omega)) ?_;refine Qr (Z3D (kd:=.u64) (L:=b) (pre := []) (post := []) (o:=0) rfl rfl rfl (by omega)) ?_;refine Qr (ZS rfl (Y28 _ _ (Z1b (by decide) (hbw.g _)) (hbw.g _))) ?_;refine Qr (ZS (v:=((X53 b (5*q+x):Nat):Int)) rfl (by rw [hchi]; exact Y1y _ _ (hbw.g _) (Y02 Y29 (hbw.g _)))) ?_;refine gd 136 ⟨?_⟩;refine Qr (Z30 rfl rfl (5*q+x) rfl (by omega)) ?_;refine Qr (Z9e (kd:=.u64) (L:=X1C b A (5*q+x)) (x:=X53 b (5*q+x)) (pre := []) (post:=rest) (o:=0) rfl rfl rfl rfl (by omega) (by omega)) ?_;rw [Zei b A (show 5*q+x<25 by omega)];refine go ?_;exact⟨x+1,by omega,by omega,⟨⟨rfl,show 0<3 by decide⟩,⟨rfl,Yt⟩,⟨rfl,show 2<3 by decide⟩,⟨rfl,Yt⟩,⟨rfl,ZI (fun _ h=>h.elim) _ Z1M⟩,⟨rfl,Yt⟩,⟨by show some _=some _; rw [hinx],Yt⟩,Yt⟩,⟨⟨by decide,rfl,X1i hr⟩,⟨by decide,rfl,X1i Yt⟩,Yt⟩⟩
         . obtain rfl : x = 5 := by omega
           refine Qo (Qz rfl (by omega)) ?_;refine go ?_;exact⟨q+1,by omega,by omega,⟨⟨rfl,show 0<3 by decide⟩,⟨rfl,Yt⟩,⟨rfl,show 2<3 by decide⟩,⟨by show some _=some _; rw [hinq],Yt⟩,⟨rfl,ZI (fun _ h=>h.elim) _ Z1M⟩,⟨rfl,Yt⟩,Yt⟩,⟨⟨by decide,rfl,X1i hr⟩,⟨by decide,rfl,X1i Yt⟩,Yt⟩⟩
       . obtain rfl : q = 5 := by omega
         refine Qo (Qz rfl (by omega)) ?_;rw [show 5*5=25 by decide,Zgm];have hcl2:=Zd7 b;have hcw2:=Zgj hbw;have hkr:(X4z b).set 0 (g0 (X4z b) 0 ^^^ rc)=X3l a (m+1):=by
          show _=X3K (X3l a m) (XS.getD m 0).toNat;rw [hAA,hrr,<- hbb,<- hcc]
          rfl
         generalize X4z b=ch at hcl2 hcw2 hkr;refine gd 141 ⟨?_⟩;refine Qr (Z3D (kd:=.u64) (L:=ch) (pre := []) (post:=rest) (o:=0) (j:=0) rfl rfl rfl (by omega)) ?_;refine gd 143 ⟨?_⟩;refine Qr (ZS (v:=((g0 ch 0 ^^^ rc:Nat):Int)) rfl (Y1y _ _ (hcw2.g _) hrc)) ?_
         iterate 2 (first|refine st ?_|(apply B<;>intro hb<;>try cases hb))
         refine Qr (Z9e (kd:=.u64) (L:=ch) (x:=g0 ch 0 ^^^ rc) (pre := []) (post:=rest) (o:=0) (j:=0) rfl rfl rfl rfl (by omega) (by omega)) ?_;rw [hkr];refine go ?_;exact⟨m+1,by omega,by omega,⟨⟨rfl,show 0<1 by decide⟩,⟨rfl,ZI (fun _ h=>h.elim) _ Z1M⟩,⟨by show some _=some _; rw [hinc],Yt⟩,Yt⟩,⟨⟨by decide,rfl,X1i hr⟩,Yt⟩⟩
 . obtain rfl : m = 24 := by omega
   refine Qo (Qz rfl (by omega)) ?_;refine go ?_;exact⟨_,_,rfl,.inl rfl,_,rfl,Yt,Z42 hr,by rw [<- hAA]; rfl⟩
theorem ZkP {e:Env} {h:X1} {n:Nat} {x i:Operand} {k0 i0 o len cap:Nat} {kk:IntKind} {m:Int} (hx:ev e x=some (.sl k0 i0 o len cap)) (hi:ev e i=some (.val (.int kk m))) (j:Nat) (hm:m=(j:Int)) (hj:j<len):X3 (.iaddr 1 x i) e h n=some (.ptr k0 i0 (o+j),h):=by
 subst hm;simp only [X3,hx,hi];rw [Y5 ⟨by omega,by omega,Yt⟩];simp
def W8 (l:List Nat):Prop:=∀ w∈l,w<256
theorem W8.g {l:List Nat} (h:W8 l) (i:Nat):g0 l i<256:=by
 by_cases hi:i<l.length
 . exact h _ (ZiN hi)
 . unfold g0;rw [Y0b,Y2B (by omega)]
   decide
theorem Z9g {bl:List Nat} (h:W8 bl) (i:Nat):∀ j,X1X bl i j<18446744073709551616
 | 0=>by show 0<_; decide
 | j+1=>Zgi (Y1l _ (by decide)) (YE (h.g _) (by decide))
theorem Z6r (a bl:List Nat):∀ i,(X3L a bl i).length=a.length
 | 0=>rfl
 | i+1=>by show (List.set ..).length=_; rw [Y14,Z6r a bl i]
theorem Zal {a bl:List Nat} (ha:W64 a) (hb:W8 bl):∀ i,W64 (X3L a bl i)
 | 0=>ha
 | i+1=>(Zal ha hb i).set (Z1b ((Zal ha hb i).g _) (Z9g hb i 8))
theorem Z5H {a bl:List Nat} (ha:a.length=25):(X1O a bl).length=25:=Zah (by rw [Z6r]; exact ha) 24
theorem Zd8 {a bl:List Nat} (ha:W64 a) (hb:W8 bl):W64 (X1O a bl):=ZbT (Zal ha hb 17) 24 (Y0m _)
theorem Zej (a b c d c':Bx):(XE [(0,a),(1,b),(2,c),(3,d)]).upd 2 c'=XE [(0,a),(1,b),(2,c'),(3,d)]:=by
 funext i
 match i with
 | 0=>rfl
 | 1=>rfl
 | 2=>rfl
 | 3=>rfl
 | i+4=>rfl
set_option maxRecDepth 100000
set_option maxHeartbeats 8000000
theorem Zia (a bl:List Nat) (ha:a.length=25) (hw:W64 a) (hbl:bl.length=136) (hbw:W8 bl) (rest:List PV) (hr:X6 rest):X2v Tryz.prog 197 (fun i => [.ptr i 0 0,.sl i 0 25 136 136]) ⟨163,[Xi .u64 a++(Xi .u8 bl++rest)]⟩ (fun r b'=>b'=⟨163,[Xi .u64 (X1O a bl)++(Xi .u8 bl++rest)]⟩):=by
 refine Z7f ok197 (Y0 rfl) fun C hC=>?_;refine go ?_;refine ZB hC (fun i=>i<=17) (fun i=>17-i) 1 (fun i => [(0,.ptr 0 0 0),(1,.sl 0 0 25 136 136),(7,Yv i)]) (fun i => [(0,⟨163,[Xi .u64 (X3L a bl i)++(Xi .u8 bl++rest)]⟩)]) (by decide) 0 (Y0l _)
  ⟨⟨rfl,show 0<1 by decide⟩,⟨rfl,show 0<1 by decide⟩,⟨rfl,Yt⟩,Yt⟩ ⟨⟨by decide,rfl,X1i (Z1D (ZN .u8 bl) hr)⟩,Yt⟩ ?_
 intro i hi;have hAl:=Z6r a bl i;rw [ha] at hAl;have hAw:=Zal hw hbw i;have hxs:X3L a bl (i+1)=(X3L a bl i).set i (g0 (X3L a bl i) i ^^^ X1X bl i 8):=rfl;generalize hAA:X3L a bl i=A at hAl hAw hxs;have hinc:IntKind.i64.wrap ((i:Int)+1)=((i+1:Nat):Int):=wi (i+1) (by omega);refine gd 8 ⟨?_⟩;by_cases hil:i<17
 . refine Qo (Qy rfl (by omega)) ?_;refine go ?_;refine ZB hC (fun j=>j<=8) (fun j=>8-j) 1 (fun j => [(0,.ptr 0 0 0),(1,.sl 0 0 25 136 136),(4,Yv i),(5,.val (.int .u64 ((X1X bl i j:Nat):Int))),(6,.val (.int .i64 ((7:Int)-(j:Int)))),(7,Yv i)]) (fun j => [(0,⟨163,[Xi .u64 (A)++(Xi .u8 bl++rest)]⟩)]) (by decide) 0 (Y0l _)
    ⟨⟨rfl,show 0<1 by decide⟩,⟨rfl,show 0<1 by decide⟩,⟨rfl,Yt⟩,⟨rfl,Yt⟩,⟨rfl,Yt⟩,⟨rfl,Yt⟩,Yt⟩ ⟨⟨by decide,rfl,X1i (Z1D (ZN .u8 bl) hr)⟩,Yt⟩ ?_
   intro j hj;have hinj:IntKind.i64.wrap ((7:Int)-(j:Int)-1)=(7:Int)-((j+1:Nat):Int):=by
    rw [show (7:Int)-(j:Int)-1=(7:Int)-((j+1:Nat):Int) by omega];exact Y0v _ ⟨by omega,by omega⟩
   have hwl:=Z9g hbw i j;refine gd 11 ⟨?_⟩;by_cases hjl:j<8
   . refine Qo (Qy rfl (by omega)) ?_;refine gd 15 ⟨?_⟩;refine Z4R rfl rfl (by decide) (X5g (X1X bl i j) 8 (by decide)) rfl ?_;refine gd 18 ⟨?_⟩;refine Zh (v:=((8*i:Nat):Int)) rfl rfl rfl (wi (8*i) (by omega)) ?_;refine gd 20 ⟨?_⟩
     refine Zh (v:=((8*i+(7-j):Nat):Int)) rfl rfl rfl (by
      rw [show ((8*i:Nat):Int)+((7:Int)-(j:Int))=((8*i+(7-j):Nat):Int) by omega]
      exact wi _ (by omega)) ?_
     refine Qo (ZkP rfl rfl (8*i+(7-j)) rfl (by omega)) ?_;refine Qo (Z3D (kd:=.u8) (L:=bl) (pre:=Xi .u64 A) (post:=rest) (o:=25) rfl rfl (by rw [ZJ]; exact hAl) (by omega)) ?_;refine Zh (v:=((g0 bl (8*i+(7-j)):Nat):Int)) rfl rfl rfl (by have:=hbw.g (8*i+(7-j)); exact Y0x _ ⟨by omega,by omega⟩) ?_;refine Zh (v:=((X1X bl i (j+1):Nat):Int)) rfl rfl rfl (by have:=hbw.g (8*i+(7-j)); exact Y1S _ _ (Y1l _ (by decide)) (by omega)) ?_;refine go ?_;exact⟨j+1,by omega,by omega,⟨⟨rfl,show 0<1 by decide⟩,⟨rfl,show 0<1 by decide⟩,⟨rfl,Yt⟩,⟨rfl,Yt⟩,⟨by show some _=some _; rw [hinj],Yt⟩,⟨rfl,Yt⟩,Yt⟩,⟨⟨by decide,rfl,X1i (Z1D (ZN .u8 bl) hr)⟩,Yt⟩⟩
   . obtain rfl : j = 8 := by omega
     refine Qo (Qz rfl (by omega)) ?_;refine gd 28 ⟨?_⟩;refine Qr (Z30 rfl rfl i rfl (by omega)) ?_;refine Qr (Z3D (kd:=.u64) (L:=A) (pre := []) (post:=(Xi .u8 bl++rest)) (o:=0) rfl rfl rfl (by omega)) ?_;refine gd 31 ⟨?_⟩;refine Qr (ZS (v:=((g0 A i ^^^ X1X bl i 8:Nat):Int)) rfl (Y1y _ _ (hAw.g _) hwl)) ?_;refine gd 33 ⟨?_⟩;refine Qr (Z30 rfl rfl i rfl (by omega)) ?_;refine Qr (Z9e (kd:=.u64) (L:=A) (x:=g0 A i ^^^ X1X bl i 8) (pre := []) (post:=(Xi .u8 bl++rest)) (o:=0) rfl rfl rfl rfl (by omega) (by omega)) ?_;rw [<- hxs];refine go ?_;exact⟨i+1,by omega,by omega,⟨⟨rfl,show 0<1 by decide⟩,⟨rfl,show 0<1 by decide⟩,⟨by show some _=some _; rw [hinc],Yt⟩,Yt⟩,⟨⟨by decide,rfl,X1i (Z1D (ZN .u8 bl) hr)⟩,Yt⟩⟩
 . obtain rfl : i = 17 := by omega
   refine Qo (Qz rfl (by omega)) ?_;refine gd 36 ⟨?_⟩;refine ZT (Zak 163 (by omega) A hAl hAw ((Xi .u8 bl++rest)) (Z1D (ZN .u8 bl) hr)) rfl rfl rfl rfl (Z42 (Z1D (ZN .u8 bl) hr)) Yt ?_;rintro r b' hr1 hb1 rfl;rw [<- hAA];refine go ?_;exact⟨_,_,rfl,.inl rfl,_,rfl,Yt,Z42 (Z1D (ZN .u8 bl) hr),rfl⟩
theorem Zib (a bl:List Nat) (ha:a.length=25) (hw:W64 a) (hbl:bl.length=136) (hbw:W8 bl) (hb rb:Bx) (hp0:X2 hb.elems) (hp1:X2 rb.elems):XX Tryz.prog 197 4 [.ptr 2 0 0,.sl 3 0 0 136 136] (XE [(0,hb),(1,rb),(2,⟨25,[Xi .u64 a ++ []]⟩),(3,⟨136,[Xi .u8 bl ++ []]⟩)]) (fun n' r h'=>n'=4/\r.pure/\h'=XE [(0,hb),(1,rb),(2,⟨25,[Xi .u64 (X1O a bl) ++ []]⟩),(3,⟨136,[Xi .u8 bl ++ []]⟩)]):=by
 refine Z1y ok197 (Y0 rfl) fun C hC=>?_;refine go ?_;refine ZB hC (fun i=>i<=17) (fun i=>17-i) 4 (fun i => [(0,.ptr 2 0 0),(1,.sl 3 0 0 136 136),(7,Yv i)]) (fun i => [(0,hb),(1,rb),(2,⟨25,[Xi .u64 (X3L a bl i) ++ []]⟩),(3,⟨136,[Xi .u8 bl ++ []]⟩)]) (by decide) 0 (Y0l _)
  ⟨⟨rfl,show 2<4 by decide⟩,⟨rfl,show 3<4 by decide⟩,⟨rfl,Yt⟩,Yt⟩ ⟨⟨by decide,rfl,Ze (fun _ h=>h.elim) _ hp0⟩,⟨by decide,rfl,Ze (fun _ h=>h.elim) _ hp1⟩,⟨by decide,rfl,X1i Yt⟩,⟨by decide,rfl,X1i Yt⟩,Yt⟩ ?_
 intro i hi;have hAl:=Z6r a bl i;rw [ha] at hAl;have hAw:=Zal hw hbw i;have hxs:X3L a bl (i+1)=(X3L a bl i).set i (g0 (X3L a bl i) i ^^^ X1X bl i 8):=rfl;generalize hAA:X3L a bl i=A at hAl hAw hxs;have hinc:IntKind.i64.wrap ((i:Int)+1)=((i+1:Nat):Int):=wi (i+1) (by omega);refine gd 8 ⟨?_⟩;by_cases hil:i<17
 . refine Qo (Qy rfl (by omega)) ?_;refine go ?_;refine ZB hC (fun j=>j<=8) (fun j=>8-j) 4 (fun j => [(0,.ptr 2 0 0),(1,.sl 3 0 0 136 136),(4,Yv i),(5,.val (.int .u64 ((X1X bl i j:Nat):Int))),(6,.val (.int .i64 ((7:Int)-(j:Int)))),(7,Yv i)]) (fun j => [(0,hb),(1,rb),(2,⟨25,[Xi .u64 (A) ++ []]⟩),(3,⟨136,[Xi .u8 bl ++ []]⟩)]) (by decide) 0 (Y0l _)
    ⟨⟨rfl,show 2<4 by decide⟩,⟨rfl,show 3<4 by decide⟩,⟨rfl,Yt⟩,⟨rfl,Yt⟩,⟨rfl,Yt⟩,⟨rfl,Yt⟩,Yt⟩ ⟨⟨by decide,rfl,Ze (fun _ h=>h.elim) _ hp0⟩,⟨by decide,rfl,Ze (fun _ h=>h.elim) _ hp1⟩,⟨by decide,rfl,X1i Yt⟩,⟨by decide,rfl,X1i Yt⟩,Yt⟩ ?_
   intro j hj;have hinj:IntKind.i64.wrap ((7:Int)-(j:Int)-1)=(7:Int)-((j+1:Nat):Int):=by
    rw [show (7:Int)-(j:Int)-1=(7:Int)-((j+1:Nat):Int) by omega];exact Y0v _ ⟨by omega,by omega⟩
   have hwl:=Z9g hbw i j;refine gd 11 ⟨?_⟩;by_cases hjl:j<8
   . refine Qo (Qy rfl (by omega)) ?_;refine gd 15 ⟨?_⟩;refine Z4R rfl rfl (by decide) (X5g (X1X bl i j) 8 (by decide)) rfl ?_;refine gd 18 ⟨?_⟩;refine Zh (v:=((8*i:Nat):Int)) rfl rfl rfl (wi (8*i) (by omega)) ?_;refine gd 20 ⟨?_⟩
     refine Zh (v:=((8*i+(7-j):Nat):Int)) rfl rfl rfl (by
      rw [show ((8*i:Nat):Int)+((7:Int)-(j:Int))=((8*i+(7-j):Nat):Int) by omega]
      exact wi _ (by omega)) ?_
     refine Qo (ZkP rfl rfl (8*i+(7-j)) rfl (by omega)) ?_;refine Qo (Z3D (kd:=.u8) (L:=bl) (pre := []) (post := []) (o:=0) rfl rfl rfl (by omega)) ?_;refine Zh (v:=((g0 bl (8*i+(7-j)):Nat):Int)) rfl rfl rfl (by have:=hbw.g (8*i+(7-j)); exact Y0x _ ⟨by omega,by omega⟩) ?_;refine Zh (v:=((X1X bl i (j+1):Nat):Int)) rfl rfl rfl (by have:=hbw.g (8*i+(7-j)); exact Y1S _ _ (Y1l _ (by decide)) (by omega)) ?_;refine go ?_;exact⟨j+1,by omega,by omega,⟨⟨rfl,show 2<4 by decide⟩,⟨rfl,show 3<4 by decide⟩,⟨rfl,Yt⟩,⟨rfl,Yt⟩,⟨by show some _=some _; rw [hinj],Yt⟩,⟨rfl,Yt⟩,Yt⟩,⟨⟨by decide,rfl,Ze (fun _ h=>h.elim) _ hp0⟩,⟨by decide,rfl,Ze (fun _ h=>h.elim) _ hp1⟩,⟨by decide,rfl,X1i Yt⟩,⟨by decide,rfl,X1i Yt⟩,Yt⟩⟩
   . obtain rfl : j = 8 := by omega
     refine Qo (Qz rfl (by omega)) ?_;refine gd 28 ⟨?_⟩;refine Qr (Z30 rfl rfl i rfl (by omega)) ?_;refine Qr (Z3D (kd:=.u64) (L:=A) (pre := []) (post := []) (o:=0) rfl rfl rfl (by omega)) ?_;refine gd 31 ⟨?_⟩;refine Qr (ZS (v:=((g0 A i ^^^ X1X bl i 8:Nat):Int)) rfl (Y1y _ _ (hAw.g _) hwl)) ?_;refine gd 33 ⟨?_⟩;refine Qr (Z30 rfl rfl i rfl (by omega)) ?_;refine Qr (Z9e (kd:=.u64) (L:=A) (x:=g0 A i ^^^ X1X bl i 8) (pre := []) (post := []) (o:=0) rfl rfl rfl rfl (by omega) (by omega)) ?_;rw [<- hxs];refine go ?_;exact⟨i+1,by omega,by omega,⟨⟨rfl,show 2<4 by decide⟩,⟨rfl,show 3<4 by decide⟩,⟨by show some _=some _; rw [hinc],Yt⟩,Yt⟩,⟨⟨by decide,rfl,Ze (fun _ h=>h.elim) _ hp0⟩,⟨by decide,rfl,Ze (fun _ h=>h.elim) _ hp1⟩,⟨by decide,rfl,X1i Yt⟩,⟨by decide,rfl,X1i Yt⟩,Yt⟩⟩
 . obtain rfl : i = 17 := by omega
   refine Qo (Qz rfl (by omega)) ?_;refine gd 36 ⟨?_⟩;refine ZT (Zak 25 (by omega) A hAl hAw ([]) Yt) rfl rfl rfl rfl (Z42 Yt) Yt ?_;rintro r b' hr1 hb1 rfl;rw [<- hAA];refine go ?_;exact⟨_,_,rfl,.inl rfl,rfl,Yt,Zej _ _ _ _ _⟩
structure HOk (h:HS):Prop where
 sl:h.st.length=25
 sw:W64 h.st
 bl:h.bl.length=136
 bw:W8 h.bl
 us:h.used<136
def X3J (h:HS) (p:List Nat):List Nat:=h.bl.take h.used++p.take (min p.length (136-h.used))++h.bl.drop (h.used+min p.length (136-h.used))
theorem Z9h {h:HS} (hh:HOk h) (p:List Nat):(X3J h p).length=136:=by
 have h1:=hh.bl;have h2:=hh.us;unfold X3J;simp only [Y0e,Y0o,YQ];omega
theorem W8.sub {l m:List Nat} (h:W8 m) (hs:∀ x∈l,x∈m):W8 l:=fun x hx=>h x (hs x hx)
theorem Zd9 {h:HS} (hh:HOk h) {p:List Nat} (hp:W8 p):W8 (X3J h p):=fun x hx=>by
 unfold X3J at hx;rcases Y0h.1 hx with h1|h1
 . rcases Y0h.1 h1 with h2 | h2
   . exact hh.bw x (YM h2)
   . exact hp x (YM h2)
 . exact hh.bw x (Y1b h1)
theorem ZiO (h:HS) (p:List Nat):h.put p=if h.used+min p.length (136-h.used)=136 then ⟨X1O h.st (X3J h p),X3J h p,0,h.total⟩ else ⟨h.st,X3J h p,h.used+min p.length (136-h.used),h.total⟩:=rfl
theorem Zda {h:HS} (hh:HOk h) {p:List Nat} (hp:W8 p):HOk (h.put p):=by
 have h2:=hh.us;rw [ZiO]
 split
 . exact⟨Z5H hh.sl,Zd8 hh.sw (Zd9 hh hp),Z9h hh p,Zd9 hh hp,by show 0<136; decide⟩
 . rename_i hne;exact⟨hh.sl,hh.sw,Z9h hh p,Zd9 hh hp,by show h.used+_<136; omega⟩
theorem Z7i {f:Nat} {h:HS} {p:List Nat} (hp:p.length=0):HS.puts f h p=h:=by
 cases f with
 | zero=>rfl
 | succ f=>show (if p.length=0 then h else _)=h; rw [Y5 hp]
theorem Zam:∀ (f f':Nat) (h:HS) (p:List Nat),HOk h->W8 p->p.length<f->p.length<f'->HS.puts f h p=HS.puts f' h p
 | 0,_,_,_,_,_,hf,_=>by omega
 | _,0,_,_,_,_,_,hf=>by omega
 | f + 1, f' + 1, h, p, hh, hp, hf, hf' => by
   have h2:=hh.us;by_cases h0:p.length=0
   . rw [Z7i h0,Z7i h0]
   . show (if p.length = 0 then h else HS.puts f (h.put p) (p.drop (min p.length (136 - h.used)))) = (if p.length = 0 then h else HS.puts f' (h.put p) (p.drop (min p.length (136 - h.used))));rw [Y6 h0,Y6 h0];exact Zam f f' _ _ (Zda hh hp) (hp.sub fun x hx=>Y1b hx) (by rw [YQ];omega) (by rw [YQ];omega)
theorem Zgn {f:Nat} {h:HS} {p:List Nat} (hh:HOk h) (hp:W8 p) (h0:¬ p.length=0) (hf:p.length<f):HS.puts f h p=HS.puts f (h.put p) (p.drop (min p.length (136-h.used))):=by
 have h2:=hh.us;obtain⟨f,rfl⟩:∃ f',f=f'+1:=⟨f-1,by omega⟩
 show (if p.length=0 then h else HS.puts f (h.put p) (p.drop (min p.length (136-h.used))))=_;rw [Y6 h0];exact Zam f (f+1) _ _ (Zda hh hp) (hp.sub fun x hx=>Y1b hx) (by rw [YQ];omega) (by rw [YQ];omega)
theorem Zgo:∀ (f:Nat) (h:HS) (p:List Nat),HOk h->W8 p->HOk (HS.puts f h p)
 | 0,_,_,hh,_=>hh
 | f + 1, h, p, hh, hp => by
   show HOk (if p.length=0 then h else HS.puts f (h.put p) (p.drop (min p.length (136-h.used))))
   split
   . exact hh
   . exact Zgo f _ _ (Zda hh hp) (hp.sub fun x hx=>Y1b hx)
def Xx (st bl:List Nat) (u t:PV):List PV:=Xi .u64 st++(Xi .u8 bl ++ [u,t])
def hBx (h:HS):Bx:=⟨163,[Xx h.st h.bl (.val (.int .i64 (h.used:Int))) (.val (.int .u64 (h.total:Int)))]⟩
section
variable {st bl:List Nat} {u t:PV}
theorem Z8h (hs:st.length=25) (hb:bl.length=136):(Xx st bl u t).length=163:=by
 simp [Xx,ZJ,hs,hb]
theorem Z4n:Xx st bl u t=(Xi .u64 st++Xi .u8 bl) ++ [u,t]:=(YU ..).symm
theorem Z2m (hs:st.length=25) (hb:bl.length=136):(Xi .u64 st++Xi .u8 bl).length=161:=by simp [ZJ,hs,hb]
theorem ZkQ (hs:st.length=25) (hb:bl.length=136):(Xx st bl u t).getD 161 pvu=u:=by
 rw [Z4n,Y0b,YH (by rw [Z2m hs hb]; exact Y0m _),Z2m hs hb]
 rfl
theorem ZlD (hs:st.length=25) (hb:bl.length=136):(Xx st bl u t).getD 162 pvu=t:=by
 rw [Z4n,Y0b,YH (by rw [Z2m hs hb]; decide),Z2m hs hb]
 rfl
theorem Zgp (hs:st.length=25) (hb:bl.length=136) (v:PV):Xj (Xx st bl u t) 161 [v]=Xx st bl v t:=by
 rw [Z7g _ _ _ (by rw [Z8h hs hb]; decide),Z4n,Y3Z _ _ (by rw [Z2m hs hb]; exact Y0m _),Z2m hs hb,Z4n]
 rfl
theorem ZjE (hs:st.length=25) (hb:bl.length=136) (v:PV):Xj (Xx st bl u t) 162 [v]=Xx st bl u v:=by
 rw [Z7g _ _ _ (by rw [Z8h hs hb]; decide),Z4n,Y3Z _ _ (by rw [Z2m hs hb]; decide),Z2m hs hb,Z4n]
 rfl
theorem Zgq (hu:u.pure) (ht:t.pure):X6 (Xx st bl u t):=Z1D (ZN _ _) (Z1D (ZN _ _) ⟨hu,ht,Yt⟩)
end
theorem Z3v (h:HS):X2 (hBx h).elems:=⟨Zgq Yt Yt,Yt⟩
theorem Z5I (D:Nat->Prop) (h:HS):Xu D (hBx h).elems:=Ze (fun _ h=>h.elim) _ (Z3v h)
theorem Zlo (l:List Nat):((bys l).map fun c=>c.getD 0 pvu)=Xi .u8 l:=by
 unfold bys Xi;rw [Y2z]
 rfl
theorem ZjF {st bl:List Nat} {u t:PV} (hs:st.length=25) (hb:bl.length=136) {used:Nat} (hu:used<136) (p:List Nat):Xj (Xx st bl u t) (25+used) (((bys p).take (136-used)).map fun c=>c.getD 0 pvu)=Xx st (bl.take used++p.take (min p.length (136-used))++bl.drop (used+min p.length (136-used))) u t:=by
 have e1:((bys p).take (136-used)).map (fun c=>c.getD 0 pvu)=Xi .u8 (p.take (min p.length (136-used))):=by
  rw [Y2o,Zlo];unfold Xi;rw [<- Y2o];congr 1;rw [Nat.min_comm,<- Y3x,Y0q]
 rw [e1];generalize hn:min p.length (136-used)=n;have hpl:(p.take n).length=n:=by rw [Y0o]; omega
 have hcl:(Xi .u8 (p.take n)).length=n:=by rw [ZJ,hpl]
 have hst:(Xi .u64 st).length=25:=by rw [ZJ,hs]
 unfold Xj Xx;rw [hcl];have d1:(Xi .u64 st++(Xi .u8 bl ++ [u,t])).take (25+used)=Xi .u64 st++Xi .u8 (bl.take used):=by
  rw [Y3d,hst,Yy (by omega),Y3d,ZJ,show 25+used-25=used by omega,show used-bl.length=0 by omega];simp [Xi,Y2o]
 have d2:(Xi .u64 st++(Xi .u8 bl ++ [u,t])).drop (25+used+n)=Xi .u8 (bl.drop (used+n)) ++ [u,t]:=by
  rw [Y2t,hst,Y1O (by omega),Y2t,ZJ,show 25+used+n-25=used+n by omega,show used+n-bl.length=0 by omega];simp [Xi,Y3E]
 rw [d1,d2];unfold Xi;simp only [Y0r,YU]
section
variable {e:Env} {h:X1} {n k:Nat} {Eb:Nat}
theorem Z4J {a:Operand} {l:List PV} {off:Nat} {v:PV} (ha:ev e a=some (.ptr k 0 off)) (hb:h k=some ⟨Eb,[l]⟩) (hl:off<l.length) (hv:l.getD off pvu=v):X3 (.load false 1 a) e h n=some (v,h):=by
 subst hv;exact Z2p ha hb Y1K (X6T _ _ hl)
theorem ZjG {a v:Operand} {l l':List PV} {off:Nat} {kd:IntKind} {x:Int} (ha:ev e a=some (.ptr k 0 off)) (hv:ev e v=some (.val (.int kd x))) (hb:h k=some ⟨Eb,[l]⟩) (hE:off+1<=Eb) (hl:Xj l off [.val (.int kd x)]=l'):X3 (.store 1 a v) e h n=some (pvu,h.upd k ⟨Eb,[l']⟩):=by
 subst hl;exact Z1T (n:=n) (size:=1) ha hv hb rfl rfl Y1K hE
theorem Zic {x:Operand} {lo hi:Option Operand} {k0 i0 o n0:Nat} (hx:ev e x=some (.ptr k0 i0 o)) (a b:Nat) (hlo:XK e 0 lo=some (a:Int)) (hhi:XK e n0 hi=some (b:Int)) (h1:a<=b) (h2:b<=n0) (h3:a<n0):X3 (.slcA n0 x lo hi) e h n=some (.sl k0 i0 (o+a) (b-a) (n0-a),h):=by
 simp only [X3,hx,hlo,hhi];rw [Y5 ⟨by omega,by omega,by omega,by omega⟩];simp
theorem Zlp {d s:Operand} {o len cap:Nat} {p:List Nat} {fl:Bool} {l l':List PV} (hd:ev e d=some (.sl k 0 o len cap)) (hs:ev e s=some (.vec (bys p) fl)) (hb:h k=some ⟨Eb,[l]⟩) (hE:o+len<=Eb) (hl:Xj l o (((bys p).take len).map fun c=>c.getD 0 pvu)=l'):X3 (.copy 1 d s) e h n=some (.val (.int .i64 ((min p.length len:Nat):Int)),h.upd k ⟨Eb,[l']⟩):=by
 subst hl;simp only [X3,hd,hs,hb];rw [Y5 ⟨fun c hc=>by obtain⟨y,_,rfl⟩:=Y0i.1 hc; rfl,Yt,show 0<1 by decide,hE⟩];rw [show (bys p).length=p.length by simp [bys]]
 rfl
end
end
section
open Go.RowKit
def X5Q (P:Program) (t:TypeId):Option IntKind:=match P.underlying t with|some (.int k)=>some k|_=>none
def X3N (P:Program) (t:TypeId):Option TypeId:=match P.underlying t with|some (.slice e)=>some e|_=>none
section
variable {P:Program} {t:TypeId} {n:Nat} {ps:List PV} {p:PV}
theorem ZaC {k:IntKind} (h:X5Q P t=some k):P.underlying t=some (.int k):=by
 unfold X5Q at h
 split at h
 . rename_i k' hu; cases h; exact hu
 . cases h
theorem Z7r {e:TypeId} (h:X3N P t=some e):P.underlying t=some (.slice e):=by
 unfold X3N at h
 split at h
 . rename_i k' hu; cases h; exact hu
 . cases h
theorem Z5n {k:IntKind} (h:XJ P n t ps) (hk:X5Q P t=some k):∃ m,(Lit.int k m).wf=true/\ps = [.val (.int k m)]:=by
 cases n with
 | zero=>exact h.elim
 | succ n=>simpa only [XJ,ZaC hk] using h
theorem Zcb {e:TypeId} (h:XJ P n t ps) (hk:X3N P t=some e):∃ n' ll fl,ll.length<=Xd/\(∀ l∈ll,XJ P n' e l)/\ps = [.vec ll fl]:=by
 cases n with
 | zero=>exact h.elim
 | succ n =>
   have:∃ ll fl,ll.length<=Xd/\(∀ l∈ll,XJ P n e l)/\ps = [.vec ll fl]:=by simpa only [XJ,Z7r hk] using h
   obtain⟨ll,fl,h⟩:=this;exact⟨n,ll,fl,h⟩
theorem ZeC {k:IntKind} (h:X1z P t p) (hk:X5Q P t=some k):∃ m,(Lit.int k m).wf=true/\p=.val (.int k m):=by
 obtain⟨n,h⟩:=h;rw [ZaC hk] at h;obtain⟨m,h1,h2⟩:=Z5n (show XJ P n t [p] from h) hk;exact⟨m,h1,by simpa using h2⟩
theorem ZaD {e:TypeId} (h:X1z P t p) (hk:X3N P t=some e):∃ n' ll fl,ll.length<=Xd/\(∀ l∈ll,XJ P n' e l)/\p=.vec ll fl:=by
 obtain⟨n,h⟩:=h;rw [Z7r hk] at h;obtain⟨n',ll,fl,h1,h2,h3⟩:=Zcb (show XJ P n t [p] from h) hk;exact⟨n',ll,fl,h1,h2,by simpa using h3⟩
end
end
end Go.Proofs.YtbfbcdjjhhcbaaaGreatDoor
