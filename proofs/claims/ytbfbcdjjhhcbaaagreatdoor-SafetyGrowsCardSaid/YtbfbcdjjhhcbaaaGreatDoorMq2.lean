/-
  Merged from the texts that this claim's theorem needs, part 3 of 7. No statement of the seat is proved here.
-/
import Derived.IntWalk
import Derived.KernelRfl
import Derived.LaidMore
import Derived.OpenShut
import Derived.ProofKit
import Derived.Test.YtbfbcdjjhhcbaaaGreatDoorChecked
import Derived.Test.YtbfbcdjjhhcbaaaGreatDoorRows
import Derived.WalkSmall
import Derived.Test.YtbfbcdjjhhcbaaaGreatDoorMq1
set_option linter.unusedSimpArgs false
set_option linter.unusedVariables false
set_option linter.unusedSectionVars false
set_option maxRecDepth 100000
set_option maxHeartbeats 16000000
namespace Go.Proofs.YtbfbcdjjhhcbaaaGreatDoor
section
open Go.ChangeShapes Go.WideShapes Go.ChangeAt Go.RowKit
theorem own:ownKnob Tryz.prog.godebug=none:=by kernel_rfl
theorem X5f:laidOutB Tryz.prog=true:=by kernel_rfl
def X5S (P:Program) (ts:List TypeId):Bool:=ts.all fun t=>P.readableRec t&&decide (t<P.types.size)
def inG (G ts:List TypeId):Bool:=ts.all fun t=>G.contains t
theorem Zkj {G ts:List TypeId} (h:inG G ts=true):∀ t∈ts,G.contains t=true:=fun t ht=>YI.1 h t ht
theorem Zf7 {P:Program} {ts:List TypeId} (h:X5S P ts=true):∀ t∈ts,P.readableRec t=true/\t<P.types.size:=fun t ht=>by
 have:=YI.1 h t ht;simpa using this
abbrev X3s : List (String × DataW Unit) := [("math/bits.deBruijn64tab",Rows.laid_math_bits_deBruijn64tab),("arbac/keccak.rounds",Rows.laid_arbac_keccak_rounds),("arbac/keccak.turns",Rows.laid_arbac_keccak_turns)]
theorem Zhb (os:Os) (args:Array Value):laidMetH Tryz.prog X3s ((World.doorLaid Tryz.prog 400 os).forCall (fun _ _=>0) ⟨#[],args,[]⟩).memory :=
 laidMetH_of_parts3 (fuel:=8) (laidMet_of_run' 8 (by kernel_rfl) (by kernel_rfl)) (by kernel_rfl) (by kernel_rfl)
theorem ZdD:(Rows.laid_math_bits_deBruijn64tab:DataW Unit)=.agg (X1T.map fun x=>.lit (.int .u8 x)):=rfl
theorem Zhc {W:World} (h:laidMetH Tryz.prog X3s W):∀ (j:Nat) (v:Value),(X1T.map fun x=>Value.int .u8 x)[j]?=some v->W.cell? ⟨0,j,none⟩=some v:=by
 rw [MakeChecks.laidMetH_plain _ _ _ (by kernel_rfl)] at h;obtain⟨ps,⟨g0,t0,cs,f0,p0,q0,hg0,ht0,hv0,hd0,_,_⟩,_,_⟩:=h;obtain rfl := YN ((show Tryz.prog.globalNamed "math/bits.deBruijn64tab" = some 0 by kernel_rfl).symm.trans hg0)
 obtain rfl:=YN ((show (Tryz.prog.globals[0]?).map (·.type)=some 245 by kernel_rfl).symm.trans ht0);obtain⟨xs,m,rfl,hx,hlen,hn,hel⟩:=DataW.trod_array (show Tryz.prog.underlying 245=some (.array 64 5) by kernel_rfl) hd0;have c1:Tryz.prog.cellsOf 5=1:=by kernel_rfl
 simp only [Y2T] at hx;have hx1:X1T.map (fun x=>(DataW.lit (.int .u8 x):DataW Unit))=xs.map (·.1):=by
  have:=hx.1;rw [ZdD] at this;simpa using this
 intro j v hv;rw [Y0y] at hv;have hj:j<64:=by
  cases hx:X1T[j]? with
  | none=>rw [hx] at hv; cases hv
  | some x=>have:=(Y8.1 hx).1; exact this
 have hj2:j<X1T.length:=hj;rw [Y0c hj2] at hv;simp only [Y1e,Y2k] at hv;subst hv;have e1:=congrArg (fun l=>l[j]?) hx1;simp only [Y0y] at e1;rw [Y0c hj2,Y0c (show j<xs.length by omega)] at e1;simp only [Y1e,Y2k] at e1;have e2:=hel j hj;rw [Y0c (show j<xs.length by omega),c1] at e2;obtain⟨k,h1,h2,_⟩:=Y4K (show Tryz.prog.underlying 5=some (.int .u8) by kernel_rfl) e2;rw [h2] at e1;simp only [Y4H,Y4O,true_and] at e1;subst e1;rw [Y26] at h1;rw [Y4A hg0 hv0 j];have h3:cs.toList[j]?=(cs.toList.drop j)[0]?:=by simp
 have h4:(cs.toList.drop j)[0]?=((cs.toList.drop j).take 1)[0]?:=by simp
 rw [<- Y2e,h3,h4,h1]
 rfl
theorem Z9F:(Rows.laid_arbac_keccak_rounds:DataW Unit)=.agg (XS.map fun x=>.lit (.int .u64 x)):=rfl
theorem ZdE {W:World} (h:laidMetH Tryz.prog X3s W):∀ (j:Nat) (v:Value),(XS.map fun x=>Value.int .u64 x)[j]?=some v->W.cell? ⟨1,j,none⟩=some v:=by
 rw [MakeChecks.laidMetH_plain _ _ _ (by kernel_rfl)] at h;obtain⟨ps,⟨_,_,_,_,_,_,_,_,_,_,⟨g0,t0,cs,f0,p0,q0,hg0,ht0,hv0,hd0,_,_⟩,_⟩,_,_⟩:=h;obtain rfl := YN ((show Tryz.prog.globalNamed "arbac/keccak.rounds" = some 1 by kernel_rfl).symm.trans hg0)
 obtain rfl:=YN ((show (Tryz.prog.globals[1]?).map (·.type)=some 293 by kernel_rfl).symm.trans ht0);obtain⟨xs,m,rfl,hx,hlen,hn,hel⟩:=DataW.trod_array (show Tryz.prog.underlying 293=some (.array 24 34) by kernel_rfl) hd0;have c1:Tryz.prog.cellsOf 34=1:=by kernel_rfl
 simp only [Y2T] at hx;have hx1:XS.map (fun x=>(DataW.lit (.int .u64 x):DataW Unit))=xs.map (·.1):=by
  have:=hx.1;rw [Z9F] at this;simpa using this
 intro j v hv;rw [Y0y] at hv;have hj:j<24:=by
  cases hx:XS[j]? with
  | none=>rw [hx] at hv; cases hv
  | some x=>have:=(Y8.1 hx).1; exact this
 have hj2:j<XS.length:=hj;rw [Y0c hj2] at hv;simp only [Y1e,Y2k] at hv;subst hv;have e1:=congrArg (fun l=>l[j]?) hx1;simp only [Y0y] at e1;rw [Y0c hj2,Y0c (show j<xs.length by omega)] at e1;simp only [Y1e,Y2k] at e1;have e2:=hel j hj;rw [Y0c (show j<xs.length by omega),c1] at e2;obtain⟨k,h1,h2,_⟩:=Y4K (show Tryz.prog.underlying 34=some (.int .u64) by kernel_rfl) e2;rw [h2] at e1;simp only [Y4H,Y4O,true_and] at e1;subst e1;rw [Y26] at h1;rw [Y4A hg0 hv0 j];have h3:cs.toList[j]?=(cs.toList.drop j)[0]?:=by simp
 have h4:(cs.toList.drop j)[0]?=((cs.toList.drop j).take 1)[0]?:=by simp
 rw [<- Y2e,h3,h4,h1]
 rfl
theorem Zb1:(Rows.laid_arbac_keccak_turns:DataW Unit)=.agg (X1P.map fun x=>.lit (.int .i64 x)):=rfl
theorem Zf8 {W:World} (h:laidMetH Tryz.prog X3s W):∀ (j:Nat) (v:Value),(X1P.map fun x=>Value.int .i64 x)[j]?=some v->W.cell? ⟨2,j,none⟩=some v:=by
 rw [MakeChecks.laidMetH_plain _ _ _ (by kernel_rfl)] at h;obtain⟨ps,⟨_,_,_,_,_,_,_,_,_,_,⟨_,_,_,_,_,_,_,_,_,_,⟨g0,t0,cs,f0,p0,q0,hg0,ht0,hv0,hd0,_,_⟩,_⟩,_⟩,_,_⟩:=h;obtain rfl := YN ((show Tryz.prog.globalNamed "arbac/keccak.turns" = some 2 by kernel_rfl).symm.trans hg0)
 obtain rfl:=YN ((show (Tryz.prog.globals[2]?).map (·.type)=some 296 by kernel_rfl).symm.trans ht0);obtain⟨xs,m,rfl,hx,hlen,hn,hel⟩:=DataW.trod_array (show Tryz.prog.underlying 296=some (.array 25 3) by kernel_rfl) hd0;have c1:Tryz.prog.cellsOf 3=1:=by kernel_rfl
 simp only [Y2T] at hx;have hx1:X1P.map (fun x=>(DataW.lit (.int .i64 x):DataW Unit))=xs.map (·.1):=by
  have:=hx.1;rw [Zb1] at this;simpa using this
 intro j v hv;rw [Y0y] at hv;have hj:j<25:=by
  cases hx:X1P[j]? with
  | none=>rw [hx] at hv; cases hv
  | some x=>have:=(Y8.1 hx).1; exact this
 have hj2:j<X1P.length:=hj;rw [Y0c hj2] at hv;simp only [Y1e,Y2k] at hv;subst hv;have e1:=congrArg (fun l=>l[j]?) hx1;simp only [Y0y] at e1;rw [Y0c hj2,Y0c (show j<xs.length by omega)] at e1;simp only [Y1e,Y2k] at e1;have e2:=hel j hj;rw [Y0c (show j<xs.length by omega),c1] at e2;obtain⟨k,h1,h2,_⟩:=Y4K (show Tryz.prog.underlying 3=some (.int .i64) by kernel_rfl) e2;rw [h2] at e1;simp only [Y4H,Y4O,true_and] at e1;subst e1;rw [Y26] at h1;rw [Y4A hg0 hv0 j];have h3:cs.toList[j]?=(cs.toList.drop j)[0]?:=by simp
 have h4:(cs.toList.drop j)[0]?=((cs.toList.drop j).take 1)[0]?:=by simp
 rw [<- Y2e,h3,h4,h1]
 rfl
theorem Zhd {W:World} (h:laidMetH Tryz.prog X3s W):X3y W:=by
 intro g j v hv;have step:∀ (k:Nat) (l:List Value) (r:List (Nat×List Value)),(X2H ((k,l) :: r) g)[j]?=some v->(l[j]?=some v/\g=k) \/ (X2H r g)[j]?=some v:=by
  intro k l r hh;unfold X2H at hh;cases hb:Nat.beq g k with
  | true=>rw [hb] at hh; exact .inl ⟨hh,YJ hb⟩
  | false=>rw [hb] at hh; exact .inr hh
 have hv:(X2H X4P g)[j]?=some v:=hv;unfold X4P at hv;rcases step _ _ _ hv with⟨h1,rfl⟩|hv
 . exact Zhc h j v h1
 rcases step _ _ _ hv with⟨h1,rfl⟩|hv
 . exact ZdE h j v h1
 rcases step _ _ _ hv with⟨h1,rfl⟩|hv
 . exact Zf8 h j v h1
 simp [X2H] at hv
end
section
set_option maxRecDepth 100000
theorem mixed : Tryz.prog.follows .mixedOrders = true := by kernel_rfl
abbrev tT (n : Nat) : Operand := .tmp n
abbrev oO (d : Nat) (p : AOp) : Xl := ⟨some d, p, none⟩
abbrev oT (g d : Nat) (p : AOp) : Xl := ⟨some d, p, some (g, true)⟩
abbrev oF (g d : Nat) (p : AOp) : Xl := ⟨some d, p, some (g, false)⟩
abbrev oM (d a : Nat) : Xl := ⟨some d, .mov (.tmp a), none⟩
abbrev nS : Value := .slice none 0 0
abbrev kI (n : Int) : Operand := .const (.int .i64 n)
abbrev kT : Operand := .const (.bool true)
abbrev kF : Operand := .const (.bool false)
abbrev kC (f : FuncId) (l : List Operand) : AOp := .call (.func f) l
abbrev sQ (x y : X4) : X4 := .seq x y
abbrev Yl (d n a : Nat) : Xl := ⟨some d, .load true n (.tmp a), none⟩
abbrev Yk (d a : Nat) : Xl := ⟨some d, .load false 1 (.tmp a), none⟩
abbrev Ya (d k a : Nat) : Xl := ⟨some d, .faddr k (.tmp a), none⟩
abbrev Yc (d f : Nat) (l : List Operand) : Xl := ⟨some d, .call (.func f) l, none⟩
abbrev Yb (d a : Nat) : Xl := ⟨some d, .box (.tmp a), none⟩
abbrev Yi (d e a b : Nat) : Xl := ⟨some d, .iaddr e (.tmp a) (.tmp b), none⟩
abbrev Yn (d a : Nat) : Xl := ⟨some d, .len (.tmp a), none⟩
abbrev Yx (d a k : Nat) : Xl := ⟨some d, .extract (.tmp a) k, none⟩
abbrev Ys (n a b : Nat) : Xl := ⟨none, .store n (.tmp a) (.tmp b), none⟩
abbrev Yd (i : Nat) (o : Xl) (m f : Nat) : X8 := ⟨i, o, m, f, false⟩
abbrev Yr (l : List Xl) (x : X4) : X4 := .seq (.region l) x
abbrev Yg (l : List Xl) : X4 := .region l
abbrev Yo (d : Nat) (b : BinOp) (x y : Operand) : Xl := ⟨some d, .bin b .num x y, none⟩
abbrev Ym (d a b : Nat) : Xl := ⟨some d, .pick (.tmp a) (.tmp b) (.const (.bool false)), none⟩
abbrev Yq (d a b : Nat) : Xl := ⟨some d, .pick (.tmp a) (.const (.bool true)) (.tmp b), none⟩
abbrev Yz (d : Nat) (l : List Value) : Xl := ⟨some d, .alloc l, none⟩
abbrev Yh (d a : Nat) : Xl := ⟨some d, .una .not (.tmp a), none⟩
abbrev Yj (d : Nat) (x : Operand) : Xl := ⟨some d, .mov x, none⟩
abbrev nP : Value := .pointer none
abbrev z0 : Value := .int .i64 0
abbrev kB (n : Int) : Operand := .const (.int .u8 n)
abbrev kW (n : Int) : Operand := .const (.int .u64 n)
abbrev Yu : Value := .int .u8 0
abbrev Y1 : List Value := [Yu,Yu,Yu,Yu,Yu,Yu,Yu,Yu,Yu,Yu,Yu,Yu,Yu,Yu,Yu,Yu,Yu,Yu,Yu,Yu,Yu,Yu,Yu,Yu,Yu,Yu,Yu,Yu,Yu,Yu,Yu,Yu]
abbrev Y2 : List Value := [Yu,Yu,Yu,Yu,Yu,Yu,Yu,Yu,Yu,Yu,Yu,Yu,Yu,Yu,Yu,Yu,Yu,Yu,Yu,Yu,Yu,Yu,Yu,Yu,Yu,Yu,Yu,Yu,Yu,Yu,Yu,Yu,.bool false,.slice none 0 0,.slice none 0 0]
abbrev Yv (n : Nat) : PV := .val (.int .i64 (n : Int))
abbrev Y3 : List Nat := [0,0,0,0,0,0,0,0,0,0,0,0,0,0,0,0,0,0,0,0,0,0,0,0,0,0,0,0,0,0,0,0]
abbrev k0:Operand:=.tmp 0
abbrev k1:Operand:=.tmp 1
abbrev k2:Operand:=.tmp 2
abbrev k3:Operand:=.tmp 3
abbrev k4:Operand:=.tmp 4
abbrev k5:Operand:=.tmp 5
abbrev k6:Operand:=.tmp 6
abbrev k7:Operand:=.tmp 7
abbrev k8:Operand:=.tmp 8
abbrev k9:Operand:=.tmp 9
abbrev k10:Operand:=.tmp 10
abbrev k11:Operand:=.tmp 11
abbrev k12:Operand:=.tmp 12
abbrev k13:Operand:=.tmp 13
abbrev k14:Operand:=.tmp 14
abbrev k15:Operand:=.tmp 15
abbrev k16:Operand:=.tmp 16
abbrev k17:Operand:=.tmp 17
abbrev k18:Operand:=.tmp 18
abbrev k19:Operand:=.tmp 19
abbrev k20:Operand:=.tmp 20
abbrev k21:Operand:=.tmp 21
abbrev k22:Operand:=.tmp 22
abbrev k23:Operand:=.tmp 23
abbrev k24:Operand:=.tmp 24
abbrev k25:Operand:=.tmp 25
abbrev k26:Operand:=.tmp 26
abbrev k27:Operand:=.tmp 27
abbrev k28:Operand:=.tmp 28
abbrev k29:Operand:=.tmp 29
abbrev k30:Operand:=.tmp 30
abbrev k31:Operand:=.tmp 31
abbrev k32:Operand:=.tmp 32
abbrev k33:Operand:=.tmp 33
abbrev k34:Operand:=.tmp 34
abbrev k35:Operand:=.tmp 35
abbrev k36:Operand:=.tmp 36
abbrev k37:Operand:=.tmp 37
abbrev k38:Operand:=.tmp 38
abbrev k39:Operand:=.tmp 39
abbrev k40:Operand:=.tmp 40
abbrev k41:Operand:=.tmp 41
abbrev k42:Operand:=.tmp 42
abbrev k43:Operand:=.tmp 43
abbrev k44:Operand:=.tmp 44
abbrev k45:Operand:=.tmp 45
abbrev k46:Operand:=.tmp 46
abbrev k47:Operand:=.tmp 47
abbrev k48:Operand:=.tmp 48
abbrev k49:Operand:=.tmp 49
abbrev k50:Operand:=.tmp 50
abbrev k51:Operand:=.tmp 51
abbrev k52:Operand:=.tmp 52
abbrev k53:Operand:=.tmp 53
abbrev k54:Operand:=.tmp 54
abbrev k55:Operand:=.tmp 55
abbrev k56:Operand:=.tmp 56
abbrev k57:Operand:=.tmp 57
abbrev k58:Operand:=.tmp 58
abbrev k59:Operand:=.tmp 59
abbrev k60:Operand:=.tmp 60
abbrev k61:Operand:=.tmp 61
abbrev k62:Operand:=.tmp 62
abbrev k63:Operand:=.tmp 63
abbrev k64:Operand:=.tmp 64
abbrev k65:Operand:=.tmp 65
abbrev k66:Operand:=.tmp 66
abbrev k67:Operand:=.tmp 67
abbrev k68:Operand:=.tmp 68
abbrev k69:Operand:=.tmp 69
abbrev k70:Operand:=.tmp 70
abbrev k71:Operand:=.tmp 71
abbrev k72:Operand:=.tmp 72
abbrev k73:Operand:=.tmp 73
abbrev k74:Operand:=.tmp 74
abbrev k75:Operand:=.tmp 75
abbrev k76:Operand:=.tmp 76
abbrev k77:Operand:=.tmp 77
abbrev k78:Operand:=.tmp 78
abbrev k79:Operand:=.tmp 79
abbrev k80:Operand:=.tmp 80
abbrev k81:Operand:=.tmp 81
abbrev k82:Operand:=.tmp 82
abbrev k83:Operand:=.tmp 83
abbrev k84:Operand:=.tmp 84
abbrev k85:Operand:=.tmp 85
abbrev k86:Operand:=.tmp 86
abbrev k87:Operand:=.tmp 87
abbrev k88:Operand:=.tmp 88
abbrev k89:Operand:=.tmp 89
abbrev k90:Operand:=.tmp 90
abbrev k91:Operand:=.tmp 91
abbrev k92:Operand:=.tmp 92
abbrev k93:Operand:=.tmp 93
abbrev k94:Operand:=.tmp 94
abbrev k95:Operand:=.tmp 95
abbrev k96:Operand:=.tmp 96
abbrev k97:Operand:=.tmp 97
abbrev k99:Operand:=.tmp 99
abbrev X7S:Operand:=.tmp 101
abbrev X6d:Operand:=.tmp 102
abbrev X6t:Operand:=.tmp 103
abbrev X6M:Operand:=.tmp 104
abbrev X8j:Operand:=.tmp 105
abbrev X6o:Operand:=.tmp 106
abbrev X7j:Operand:=.tmp 107
abbrev X7P:Operand:=.tmp 108
abbrev X7n:Operand:=.tmp 109
abbrev X6E:Operand:=.tmp 110
abbrev X7a:Operand:=.tmp 111
abbrev X71:Operand:=.tmp 112
abbrev X6X:Operand:=.tmp 113
abbrev X6K:Operand:=.tmp 114
abbrev X6F:Operand:=.tmp 115
abbrev X74:Operand:=.tmp 116
abbrev X7x:Operand:=.tmp 117
abbrev X7M:Operand:=.tmp 118
abbrev X76:Operand:=.tmp 119
abbrev X6I:Operand:=.tmp 120
abbrev X6N:Operand:=.tmp 121
abbrev X6L:Operand:=.tmp 122
abbrev X8m:Operand:=.tmp 123
abbrev X7p:Operand:=.tmp 124
abbrev X7f:Operand:=.tmp 125
abbrev X78:Operand:=.tmp 126
abbrev X7X:Operand:=.tmp 127
abbrev X7s:Operand:=.tmp 128
abbrev X7v:Operand:=.tmp 129
abbrev X7y:Operand:=.tmp 130
abbrev X77:Operand:=.tmp 132
abbrev X72:Operand:=.tmp 133
abbrev X8i:Operand:=.tmp 134
abbrev X7g:Operand:=.tmp 135
abbrev X7J:Operand:=.tmp 137
abbrev X7m:Operand:=.tmp 138
abbrev X70:Operand:=.tmp 139
abbrev X7i:Operand:=.tmp 141
abbrev X7q:Operand:=.tmp 142
abbrev X7k:Operand:=.tmp 144
abbrev X7C:Operand:=.tmp 145
abbrev X7E:Operand:=.tmp 146
abbrev X86:Operand:=.tmp 147
abbrev X7I:Operand:=.tmp 148
abbrev X8k:Operand:=.tmp 149
abbrev X7O:Operand:=.tmp 150
abbrev X7R:Operand:=.tmp 152
abbrev X83:Operand:=.tmp 154
abbrev X8l:Operand:=.tmp 156
abbrev X7H:Operand:=.tmp 157
abbrev X8o:Operand:=.tmp 158
abbrev X8b:Operand:=.tmp 159
abbrev X8d:Operand:=.tmp 161
abbrev X8c:Operand:=.tmp 162
abbrev X7z:Operand:=.tmp 163
abbrev X88:Operand:=.tmp 166
abbrev X80:Operand:=.tmp 167
abbrev X89:Operand:=.tmp 168
abbrev X7B:Operand:=.tmp 169
abbrev X7N:Operand:=.tmp 171
abbrev X7T:Operand:=.tmp 173
abbrev X87:Operand:=.tmp 176
abbrev X7L:Operand:=.tmp 177
abbrev X7W:Operand:=.tmp 178
abbrev X84:Operand:=.tmp 179
abbrev X8a:Operand:=.tmp 180
abbrev X7U:Operand:=.tmp 181
abbrev q0:Operand:=.const (.int .i64 0)
abbrev q1:Operand:=.const (.int .i64 1)
abbrev q2:Operand:=.const (.int .i64 2)
abbrev q3:Operand:=.const (.int .i64 3)
abbrev q4:Operand:=.const (.int .i64 4)
abbrev q5:Operand:=.const (.int .i64 5)
abbrev q6:Operand:=.const (.int .i64 6)
abbrev q7:Operand:=.const (.int .i64 7)
abbrev q8:Operand:=.const (.int .i64 8)
abbrev q10:Operand:=.const (.int .i64 10)
abbrev q15:Operand:=.const (.int .i64 15)
abbrev q16:Operand:=.const (.int .i64 16)
abbrev q17:Operand:=.const (.int .i64 17)
abbrev q20:Operand:=.const (.int .i64 20)
abbrev q24:Operand:=.const (.int .i64 24)
abbrev q25:Operand:=.const (.int .i64 25)
abbrev q32:Operand:=.const (.int .i64 32)
abbrev q63:Operand:=.const (.int .i64 63)
abbrev q64:Operand:=.const (.int .i64 64)
abbrev Y4 := X3R Tryz.prog
theorem Yf {f nt : Nat} {fn : Func} {ac : X4} {rs : List X27} (hf : Tryz.prog.funcs[f]? = some fn) (hnt : fn.ntmps = nt) (hn : (fn.name == "runtime.NumGoroutine") = false := by kernel_rfl) (hc : X50 Tryz.prog nt fn.body = some ac := by kernel_rfl) (hr : X2S Tryz.prog fn.results.toList = some rs := by kernel_rfl)   : X3R Tryz.prog f nt ac rs := Z9 mixed hf hn hnt hc hr
theorem Yp {P : Program} {f nt : Nat} {ac : X4} {rs : List X27} (hf : X3R P f nt ac rs) {args : List PV} {R : PV → Prop} (hk : ∀ C : Ctx, C.dom 0 → aw P C ac (X7t rs R) 0 (XQ args) (fun _ => none)) (hn : args.length ≤ nt := by exact Y0 rfl) : Xa P f args R := Z3 hf hn hk
def ir3:X4:=(Yr [Yb 5 2,Yj 6 kF] (sQ (Yr [Yc 22 5 [],Yh 23 22] (.cond k23 (Yr [Yj 6 kF] .ret) .skip)) (Yr [oM 25 0,Yc 26 6 [k25],oM 24 26,Yx 27 24 0,Yx 28 24 1,Yx 29 24 2,Yz 7 [z0,nP,nS,nS,nS,nS],oO 8 (.alloc [z0,
 nS,(.int .u64 0),nS,nS,nS]),Ys 6 7 27,Ys 6 8 28,oM 9 29] (sQ (Yr [oM 30 9,Yh 31 30] (.cond k31 (Yr [Yj 6 kF] .ret) .skip)) (Yr [Yl 33 6 7,Yc 34 7 [k33,kI 2000],oM 32 34,Yx 35 32 0,Yx 36 32 1,Yx 37 32 2,
 Yz 10 Y2,Ys 35 10 35,oM 11 36,oM 12 37] (sQ (.draw [Yd 0 (Yl 38 6 7) 0 0,Yd 1 (Yc 39 8 [k38]) 1 0,Yd 2 (Yl 40 6 7) 0 0,Yd 3 (Yc 41 8 [k40]) 7 1,Yd 4 (Yz 13 [z0,nP,nS,nS,nS,nS]) 0 0,Yd 5 (Yz 14 [z0,nP,nS,
 nS,nS,nS]) 0 0,Yd 6 (Ys 6 13 39) 63 1,Yd 7 (Ys 6 14 41) 127 1]) (sQ (.draw [Yd 0 (Ya 42 3 13) 0 0,Yd 1 (Yk 43 42) 1 0,Yd 2 (oO 44 (.iaddrA 2 1 k5 q0)) 0 0,Yd 3 (Yk 45 44) 4 0,Yd 4 (oO 46 (.conv .i64 k45)) 12 0,
 Yd 5 (Ya 47 0 8) 0 0,Yd 6 (Yk 48 47) 32 0,Yd 7 (Yo 49 .rem k46 k48) 124 0,Yd 8 (Yo 50 .add q1 k49) 252 0,Yd 9 (oO 51 (.build [(.bool false),nS,nS,z0,z0] [(3,1,k50)])) 508 0,Yd 10 (oO 52 (.bslice [(.bool false),
 nS,nS,z0,z0] 1 [(0,k51)])) 1020 0,Yd 11 (oO 53 (.append [(.bool false),nS,nS,z0,z0] 72 k43 k52)) 2047 1,Yd 12 (Ya 54 3 13) 4095 1,Yd 13 (Ys 1 54 53) 8191 1]) (sQ (.draw [Yd 0 (Ya 55 5 13) 0 0,Yd 1 (Yk 56 55) 1 0,
 Yd 2 (oO 57 (.iaddrA 2 1 k5 q1)) 0 0,Yd 3 (Yk 58 57) 4 0,Yd 4 (oO 59 (.conv .i64 k58)) 12 0,Yd 5 (Ya 60 0 8) 0 0,Yd 6 (Yk 61 60) 32 0,Yd 7 (Yo 62 .rem k59 k61) 124 0,Yd 8 (Yo 63 .add q1 k62) 252 0,Yd 9 (oO 64 (.bslice [z0] 1 [(0,
 k63)])) 508 0,Yd 10 (Yc 65 9 [k64]) 1020 0,Yd 11 (oO 66 (.build [nS,nS] [(0,1,k65)])) 2044 0,Yd 12 (oO 67 (.bslice [nS,nS] 1 [(0,k66)])) 4092 0,Yd 13 (oO 68 (.append [nS,nS] 48 k56 k67)) 8191 1,Yd 14 (Ya 69 5 13) 16383 1,
 Yd 15 (Ys 1 69 68) 32767 1]) (sQ (Yr [Ya 70 3 14,Yk 71 70,Yn 72 71,Yo 73 .gtr k72 q0] (.cond k73 (Yr [oM 74 1,oO 75 (.conv .i64 k74),Ya 76 3 14,Yk 77 76,Yn 78 77,Yo 79 .rem k75 k78,oM 15 79] (Yg [Ya 80 3 14,
 Yk 81 80,oM 82 15,oM 83 15,Yo 84 .add k83 q1,Yc 85 10 [k81,k82,k84],Ya 86 3 14,Ys 1 86 85])) .skip)) (Yr [Yl 88 6 13,Yc 89 7 [k88,kI 2000],oM 87 89,Yx 90 87 0,Yx 91 87 1,Yx 92 87 2,Yz 16 Y2,Ys 35 16 90,
 oM 17 91,oM 18 92] (Yr [Yl 94 6 14,Yc 95 7 [k94,kI 2000],oM 93 95,Yx 96 93 0,Yx 97 93 1,Yx 98 93 2,Yz 19 Y2,Ys 35 19 96,oM 20 97,oM 21 98] (Yr [oM 99 12,Yo 100 .eql k99 q0,oM 101 100,oT 101 102 (.mov k18),
 oT 101 103 (.bin .eql .num X6d q0),Ym 104 101 103,oM 105 104,oT 105 106 (.mov k21),oT 105 107 (.bin .eql .num X6o q0),Ym 108 105 107,oM 109 108,oT 109 110 (.faddr 32 k10),oT 109 111 (.load false 1 X6E),
 oT 109 112 (.una .not X7a),oT 109 113 (.mov X71),oF 113 114 (.faddr 32 k16),oF 113 115 (.load false 1 X6K),oT 109 116 (.pick X6X kT X6F),Ym 117 109 116,oM 118 117,oT 118 119 (.faddr 32 k10),oT 118 120 (.load false 1 X76),
 oT 118 121 (.mov X6I),oF 121 122 (.faddr 32 k19),oF 121 123 (.load false 1 X6L),oF 121 124 (.una .not X8m),oT 118 125 (.pick X6N kT X7p),Ym 126 118 125,oM 6 126] .ret))))))))))))
theorem ok3:Y4 3 127 ir3 [.tmp 6]:=Yf Tryz.func3 Tryz.ntmps3
def ir5:X4:=(Yr [Yj 0 kF] (Yr [Yc 12 16 [],oO 13 (.bslice [z0] 1 [(0,q3)]),Yc 14 9 [k13],oO 15 (.build [nS,nS] [(0,1,k14)]),oO 16 (.bslice [nS,nS] 1 [(0,k15)]),oO 17 (.build [(.bool false),nS,nS,z0,
 z0] [(3,1,q1)]),oO 18 (.bslice [z0] 1 [(0,q1)]),Yc 19 9 [k18],oO 20 (.build [nS,nS] [(0,1,k19)]),oO 21 (.build [(.bool false),nS,nS,z0,z0] [(3,1,q2),(1,2,k20)]),oO 22 (.bslice [z0] 1 [(0,q2)]),Yc 23 9 [k22],
 oO 24 (.bslice [z0] 1 [(0,q1)]),Yc 25 9 [k24],oO 26 (.build [nS,nS] [(0,1,k23),(1,1,k25)]),oO 27 (.build [(.bool false),nS,nS,z0,z0] [(3,1,q3),(1,2,k26)]),oO 28 (.build [(.bool false),nS,nS,z0,z0] [(0,
 1,kT),(3,1,q1)]),oO 29 (.bslice [(.bool false),nS,nS,z0,z0] 4 [(0,k17),(1,k21),(2,k27),(3,k28)]),oO 30 (.build [z0,nP,nS,nS,nS,nS] [(0,1,q3),(1,1,k12),(5,1,k16),(3,1,k29)]),Yz 1 [z0,nP,nS,nS,nS,nS],Ys 6 1 30] (sQ (.draw [Yd 0 (Yc 31 16 []) 0 0,
 Yd 1 (oO 32 (.bslice [z0] 1 [(0,q1)])) 0 0,Yd 2 (Yc 33 9 [k32]) 3 0,Yd 3 (Ya 34 5 1) 0 1,Yd 4 (Yk 35 34) 8 1,Yd 5 (oO 36 (.bslice [z0] 1 [(0,q1)])) 0 0,Yd 6 (Yc 37 9 [k36]) 39 0,Yd 7 (oO 38 (.build [nS,
 nS] [(0,1,k37)])) 103 0,Yd 8 (oO 39 (.build [(.bool false),nS,nS,z0,z0] [(3,1,q2),(1,2,k38)])) 231 0,Yd 9 (oO 40 (.bslice [(.bool false),nS,nS,z0,z0] 1 [(0,k39)])) 487 0,Yd 10 (oO 41 (.build [z0,nP,nS,
 nS,nS,nS] [(0,1,q3),(1,1,k31),(2,1,k33),(5,1,k35),(3,1,k40)])) 1023 1,Yd 11 (Yz 2 [z0,nP,nS,nS,nS,nS]) 0 0,Yd 12 (Ys 6 2 41) 4095 1]) (Yr [Yl 43 6 1,Yc 44 7 [k43,kI 2000],oM 42 44,Yx 45 42 0,Yx 46 42 1,
 Yx 47 42 2,Yz 3 Y2,Ys 35 3 45,oM 4 46,oM 5 47] (Yr [Yl 49 6 2,Yc 50 7 [k49,kI 2000],oM 48 50,Yx 51 48 0,Yx 52 48 1,Yx 53 48 2,Yz 6 Y2,Ys 35 6 51,oM 7 52,oM 8 53] (Yr [Yl 55 6 1,Ya 56 33 3,Yk 57 56,Yc 58 17 [k55,
 k57],oM 54 58,Yx 59 54 0,Yx 60 54 1,Yx 61 54 2,Yz 9 [nS],Ys 1 9 59,oM 10 60,oM 11 61] (Yr [oM 62 5,Yo 63 .eql k62 q0,oM 64 63,oT 64 65 (.faddr 32 k3),oT 64 66 (.load false 1 k65),Ym 67 64 66,oM 68 67,oT 68 69 (.mov k4),
 oT 68 70 (.bin .eql .num k69 (kB 2)),Ym 71 68 70,oM 72 71,oT 72 73 (.mov k11),Ym 74 72 73,oM 75 74,oT 75 76 (.load true 6 k1),oT 75 77 (.load true 1 k9),oT 75 78 (kC 18 [k76,k77]),Ym 79 75 78,oM 80 79,
 oT 80 81 (.mov k8),oT 80 82 (.bin .eql .num k81 q0),Ym 83 80 82,oM 84 83,oT 84 85 (.faddr 32 k6),oT 84 86 (.load false 1 k85),oT 84 87 (.una .not k86),Ym 88 84 87,oM 89 88,oT 89 90 (.mov k7),oT 89 91 (.bin .eql .num k90 (kB 1)),
 Ym 92 89 91,oM 93 92,oT 93 94 (.faddr 34 k6),oT 93 95 (.load false 1 k94),oT 93 96 (.len k95),oT 93 97 (.bin .gtr .num k96 q0),Ym 98 93 97,oM 0 98] .ret)))))))
theorem ok5:Y4 5 99 ir5 [.tmp 0]:=Yf Tryz.func5 Tryz.ntmps5
def ir6:X4:=(Yr [Yz 2 [z0,nP,nS,nS,nS,nS],oO 3 (.alloc [z0,nS,(.int .u64 0),nS,nS,nS]),Yj 4 kF] (Yr [oM 8 0,Yc 9 19 [k8],oO 5 (.alloc [z0,nS,(.int .u64 0),nS,nS,nS]),Ys 6 5 9] (Yr [Yl 11 6 5,Yc 12 20 [k11],
 oM 10 12,Yx 13 10 0,Yx 14 10 1,Yz 6 [z0,nP,nS,nS,nS,nS],Ys 6 6 13,oM 7 14] (sQ (.draw [Yd 0 (Yl 15 6 6) 0 0,Yd 1 (Yl 16 6 5) 0 0,Yd 2 (oM 17 7) 0 0,Yd 3 (Ys 6 2 15) 1 2,Yd 4 (Ys 6 3 16) 11 1,Yd 5 (oM 4 17) 31 1]) .ret))))
theorem ok6:Y4 6 18 ir6 [.cell 2 true 6,.cell 3 true 6,.tmp 4]:=Yf Tryz.func6 Tryz.ntmps6
def ir7:X4:=(Yr [Yb 2 0,Yz 4 Y2,oO 5 (.mov (.const Yu)),Yj 6 q0] (Yr [Yl 12 6 2,oM 13 1,Yc 14 21 [k12,k13],oM 11 14,Yx 15 11 0,Yx 16 11 1,Yz 7 [z0,nP,nS,nS,nS,nS,z0,nP,nS,nS,nS,nS,nS,nS],Ys 14 7 15,
 oM 8 16] (sQ (Yr [oM 17 8,Yo 18 .neq k17 q0] (.cond k18 (Yr [oO 19 (.build Y2 []),oM 20 8,Ys 35 4 19,oO 5 (.mov (.const Yu)),oM 6 20] .ret) .skip)) (Yr [Yj 9 (kB 2)] (sQ (Yr [Ya 21 6 7,Yl 22 6 21,Yc 23 13 [k22]] (.cond k23 (Yg [Yj 9 (kB 1)]) .skip)) (Yr [Yl 25 14 7,
 oM 26 9,oM 27 1,Yc 28 22 [k25,k26,k27],oM 24 28,Yx 29 24 0,Yx 30 24 1,Yz 10 Y2,Ys 35 10 29,oM 8 30] (sQ (Yr [oM 31 9,Yo 32 .eql k31 (kB 2),oM 33 32,oT 33 34 (.mov k8),oT 33 35 (.bin .eql .num k34 q3),Ym 36 33 35] (.cond k36 (Yr [Yj 9 (kB 3)] (Yg [Yl 38 14 7,
 oM 39 9,oM 40 1,Yc 41 22 [k38,k39,k40],oM 37 41,Yx 42 37 0,Yx 43 37 1,Ys 35 10 42,oM 8 43])) .skip)) (sQ (Yr [oM 44 8,Yo 45 .neq k44 q0] (.cond k45 (Yr [oO 46 (.build Y2 []),oM 47 8,Ys 35 4 46,oO 5 (.mov (.const Yu)),
 oM 6 47] .ret) .skip)) (Yr [Yl 48 35 10,oM 49 9,Ys 35 4 48,oM 5 49,Yj 6 q0] .ret)))))))))
theorem ok7:Y4 7 50 ir7 [.cell 4 true 35,.tmp 5,.tmp 6]:=Yf Tryz.func7 Tryz.ntmps7
def ir8:X4:=(Yr [Yb 1 0,Yz 2 [z0,nP,nS,nS,nS,nS]] (sQ (.draw [Yd 0 (Ya 3 3 1) 0 0,Yd 1 (Yk 4 3) 1 0,Yd 2 (Yc 5 23 [k4]) 3 0,Yd 3 (Ya 6 4 1) 0 0,Yd 4 (Yk 7 6) 8 0,Yd 5 (Yc 8 24 [k7]) 31 0,Yd 6 (Ya 9 5 1) 0 0,
 Yd 7 (Yk 10 9) 64 0,Yd 8 (Yc 11 24 [k10]) 255 1,Yd 9 (Ya 12 3 1) 223 1,Yd 10 (Ys 1 12 5) 1023 1,Yd 11 (Ya 13 4 1) 2047 1,Yd 12 (Ys 1 13 8) 4095 1,Yd 13 (Ya 14 5 1) 8191 1,Yd 14 (Ys 1 14 11) 16383 1]) (Yr [Yl 15 6 1,
 Ys 6 2 15] .ret)))
theorem ok8:Y4 8 16 ir8 [.cell 2 true 6]:=Yf Tryz.func8 Tryz.ntmps8
def ir9:X4:=(Yr [Yz 2 [nS]] (Yr [oO 3 (.mov (.const (.int .i64 (-1))))] (sQ (Yr [oM 9 0,Yn 10 9,Yj 11 q0] (.block 0 (.loop (Yr [Yo 12 .lss k11 k10] (sQ (.cond k12 .skip (.exit 0)) (sQ (.block 1 (Yr [Yi 13 1 9 11,
 Yk 14 13,oM 5 14] (Yr [oM 15 5,Yo 16 .leq k15 (kI 4095)] (.cond k16 (Yg [oM 17 3,oM 18 5,oO 19 (.mx k17 k18),oM 3 19]) .skip)))) (Yg [Yo 20 .add k11 q1,oM 11 20]))))))) (sQ (Yr [oM 21 3,Yo 22 .lss k21 q0] (.cond k22 (Yr [oO 23 (.build [nS] []),
 Ys 1 2 23] .ret) .skip)) (Yr [oM 24 3,Yo 25 .quo k24 q64,Yo 26 .add k25 q1,oO 27 (.mslice [(.int .u64 0)] 8 k26 k26),oM 6 27] (sQ (Yr [oM 28 0,Yn 29 28,Yj 30 q0] (.block 2 (.loop (Yr [Yo 31 .lss k30 k29] (sQ (.cond k31 .skip (.exit 2)) (sQ (.block 3 (Yr [Yi 32 1 28 30,
 Yk 33 32,oM 8 33] (Yr [oM 34 8,Yo 35 .geq k34 q0,oM 36 35,oT 36 37 (.mov k8),oT 36 38 (.mov k3),oT 36 39 (.bin .leq .num k37 k38),Ym 40 36 39] (.cond k40 (.draw [Yd 0 (oM 41 6) 0 1,Yd 1 (oM 42 8) 0 1,Yd 2 (Yo 43 .quo k42 q64) 2 1,
 Yd 3 (Yi 44 1 41 43) 7 1,Yd 4 (Yk 45 44) 15 1,Yd 5 (oM 46 8) 0 0,Yd 6 (Yo 47 .rem k46 q64) 32 0,Yd 7 (Yo 48 .shl (kW 1) k47) 96 0,Yd 8 (Yo 49 .or k45 k48) 255 1,Yd 9 (Yi 50 1 41 43) 511 1,Yd 10 (Ys 1 50 49) 1023 1]) .skip)))) (Yg [Yo 51 .add k30 q1,
 oM 30 51]))))))) (Yr [oM 52 6,Yc 53 25 [k52],Ys 1 2 53] .ret)))))))
theorem ok9:Y4 9 54 ir9 [.cell 2 true 1]:=Yf Tryz.func9 Tryz.ntmps9
def ir10:X4:=(Yr [oO 6 (.mov (.const nS))] (Yr [oM 8 0,oM 9 1,oM 10 2,oM 11 0,Yn 12 11,oO 13 (.slc 5 k8 (some k9) (some k10) (some k12))] (sQ (Yr [oM 14 1,oM 15 2,Yo 16 .eql k14 k15] (.cond k16 (Yr [oM 17 0,
 oM 6 17] .ret) .skip)) (Yr [oM 18 0,Yn 19 18,oM 7 19] (sQ (.draw [Yd 0 (oM 20 0) 0 0,Yd 1 (oM 21 1) 0 0,Yd 2 (oO 22 (.slc 5 k20 none (some k21) none)) 3 0,Yd 3 (oM 23 0) 0 0,Yd 4 (oM 24 2) 0 0,Yd 5 (oO 25 (.slc 5 k23 (some k24) none none)) 24 0,
 Yd 6 (oO 26 (.append [(.bool false),nS,nS,z0,z0] 72 k22 k25)) 63 1,Yd 7 (oM 0 26) 127 1]) (Yr [oM 27 0,oM 28 0,Yn 29 28,oM 30 7,oO 31 (.slc 5 k27 (some k29) (some k30) none),⟨none,.clear [(.bool false),
 nS,nS,z0,z0] k31,none⟩] (Yr [oM 32 0,oM 6 32] .ret)))))))
theorem ok10:Y4 10 33 ir10 [.tmp 6]:=Yf Tryz.func10 Tryz.ntmps10
def ir11:X4:=(Yr [Yb 1 0,Yz 2 [z0,nP,nS,nS,nS,nS],oO 3 (.mov (.const nS)),Yj 4 q0] (sQ (Yr [Yl 14 6 1,Yc 15 26 [k14],oM 5 15] (Yr [oM 16 5,Yo 17 .neq k16 q0] (.cond k17 (Yr [oO 18 (.build [z0,nP,nS,
 nS,nS,nS] []),oM 19 5,Ys 6 2 18,oO 3 (.mov (.const nS)),oM 4 19] .ret) .skip))) (Yr [Yl 20 6 1,Yc 21 27 [k20],Yz 6 [nS],Ys 1 6 21] (Yr [Yl 22 6 1,Yc 23 8 [k22],Yz 7 [z0,nP,nS,nS,nS,nS],Ys 6 7 23] (sQ (.draw [Yd 0 (Ya 24 0 7) 0 0,
 Yd 1 (Yk 25 24) 1 0,Yd 2 (Ya 26 1 7) 0 0,Yd 3 (Yk 27 26) 4 0,Yd 4 (Ya 28 2 7) 0 0,Yd 5 (Yl 29 1 28) 16 0,Yd 6 (Yl 30 1 6) 0 0,Yd 7 (Yc 31 28 [k29,k30]) 112 0,Yd 8 (Ya 32 5 7) 0 0,Yd 9 (Yk 33 32) 256 0,
 Yd 10 (oO 34 (.build [z0,nP,nS,nS,nS,nS] [(0,1,k25),(1,1,k27),(2,1,k31),(5,1,k33)])) 1023 1,Yd 11 (Yz 8 [z0,nP,nS,nS,nS,nS]) 0 0,Yd 12 (Ys 6 8 34) 4095 1]) (Yr [oO 9 (.mov (.const nS))] (sQ (Yr [Ya 35 3 7,
 Yk 36 35,Yn 37 36,Yj 38 q0] (.block 0 (.loop (Yr [Yo 39 .lss k38 k37] (sQ (.cond k39 .skip (.exit 0)) (sQ (.block 1 (Yr [oM 40 38,Yi 41 5 36 38,Yl 42 5 41,oO 11 (.alloc [(.bool false),nS,nS,z0,z0]),oM 10 40,
 Ys 5 11 42] (Yr [Yl 43 1 6,Ya 44 3 11,Yk 45 44,Yc 46 29 [k43,k45]] (.cond k46 (Yg [Ya 47 3 8,Yk 48 47,Yl 49 5 11,oO 50 (.bslice [(.bool false),nS,nS,z0,z0] 1 [(0,k49)]),oO 51 (.append [(.bool false),nS,
 nS,z0,z0] 72 k48 k50),oM 52 9,oM 53 10,oO 54 (.bslice [z0] 1 [(0,k53)]),oO 55 (.append [z0] 8 k52 k54),Ya 56 3 8,Ys 1 56 51,oM 9 55]) .skip)))) (Yg [Yo 57 .add k38 q1,oM 38 57]))))))) (sQ (Yr [Ya 58 4 7,
 Yk 59 58,Yn 60 59,Yj 61 q0] (.block 2 (.loop (Yr [Yo 62 .lss k61 k60] (sQ (.cond k62 .skip (.exit 2)) (sQ (.block 3 (Yr [Yi 63 2 59 61,Yl 64 2 63,Yz 13 [nS,nS],Ys 2 13 64] (sQ (.draw [Yd 0 (Yl 65 6 1) 0 0,
 Yd 1 (Yl 66 2 13) 0 0,Yd 2 (Yc 67 30 [k65,k66]) 3 0,Yd 3 (Yl 68 1 6) 0 0,Yd 4 (Yc 69 31 [k67,k68]) 15 1]) (.cond k69 (Yg [Ya 70 4 8,Yk 71 70,Yl 72 2 13,oO 73 (.bslice [nS,nS] 1 [(0,k72)]),oO 74 (.append [nS,
 nS] 48 k71 k73),Ya 75 4 8,Ys 1 75 74]) .skip)))) (Yg [Yo 76 .add k61 q1,oM 61 76]))))))) (Yr [Yl 77 6 8,oM 78 9,Ys 6 2 77,oM 3 78,Yj 4 q0] .ret)))))))))
theorem ok11:Y4 11 79 ir11 [.cell 2 true 6,.tmp 3,.tmp 4]:=Yf Tryz.func11 Tryz.ntmps11
def ir13:X4:=(Yr [Yb 1 0,Yj 2 kF] (sQ (Yr [Yl 5 6 1,Yc 6 26 [k5],Yo 7 .neq k6 q0,oM 8 7,oF 8 9 (.faddr 4 k1),oF 8 10 (.load false 1 k9),oF 8 11 (.len k10),oF 8 12 (.bin .gtr .num k11 q0),Yq 13 8 12] (.cond k13 (Yr [Yj 2 kF] .ret) .skip)) (sQ (Yr [Ya 14 3 1,
 Yk 15 14,Yn 16 15,Yj 17 q0] (.block 0 (.loop (Yr [Yo 18 .lss k17 k16] (sQ (.cond k18 .skip (.exit 0)) (sQ (.block 1 (Yr [Yi 19 5 15 17,Yl 20 5 19,oO 4 (.alloc [(.bool false),nS,nS,z0,z0]),Ys 5 4 20] (Yr [Ya 21 1 4,
 Ya 22 1 21,Yl 23 1 22,Yc 24 32 [k23],Yh 25 24] (.cond k25 (Yr [Yj 2 kF] .ret) .skip)))) (Yg [Yo 26 .add k17 q1,oM 17 26]))))))) (Yr [Ya 27 5 1,Yk 28 27,Yc 29 33 [k28,(.func 34)],Yh 30 29,oM 2 30] .ret))))
theorem ok13:Y4 13 31 ir13 [.tmp 2]:=Yf Tryz.func13 Tryz.ntmps13
def ir16:X4:=(Yr [oO 0 (.mov (.const nP))] (Yr [Yc 4 44 [q64,(.const nS)],oM 3 4,Yx 5 3 0,Yx 6 3 1,oM 1 5,oM 2 6] (Yr [oM 7 1,oO 8 (.build [nP] [(0,1,k7)]),Yb 9 8,oM 0 9] .ret)))
theorem ok16:Y4 16 10 ir16 [.tmp 0]:=Yf Tryz.func16 Tryz.ntmps16
def ir17:X4:=(Yr [Yb 2 0,Yz 4 [nS],Yj 5 q0,Yj 6 kF] (sQ (Yr [Ya 12 1 2,Yk 13 12,oO 14 (.bin .eql .ptr k13 (.const nP))] (.cond k14 (Yr [oO 15 (.build [nS] []),Ys 1 4 15,Yj 5 q0,Yj 6 kF] .ret) .skip)) (Yr [Ya 16 2 2,
 Yl 17 1 16,Yz 7 [nS],Ys 1 7 17] (sQ (Yr [oM 18 1,Yn 19 18,Yj 20 q0] (.block 0 (.loop (Yr [Yo 21 .lss k20 k19] (sQ (.cond k21 .skip (.exit 0)) (sQ (.block 1 (Yr [oM 22 20,Yi 23 1 18 20,Yk 24 23,oM 8 22,
 oM 9 24] (Yr [Yl 26 6 2,Yl 27 1 7,oM 28 9,Yc 29 45 [k26,k27,k28],oM 25 29,Yx 30 25 0,Yx 31 25 1,Yz 10 [nS],Ys 1 10 30,oM 11 31] (sQ (Yr [oM 32 11,Yh 33 32] (.cond k33 (Yr [Yl 34 1 7,oM 35 8,Ys 1 4 34,oM 5 35,
 Yj 6 kF] .ret) .skip)) (Yg [Yl 36 1 10,Ys 1 7 36]))))) (Yg [Yo 37 .add k20 q1,oM 20 37]))))))) (Yr [Yl 38 1 7,oM 39 1,Yn 40 39,Ys 1 4 38,oM 5 40,Yj 6 kT] .ret)))))
theorem ok17:Y4 17 41 ir17 [.cell 4 true 1,.tmp 5,.tmp 6]:=Yf Tryz.func17 Tryz.ntmps17
def ir18:X4:=(Yr [Yb 2 0,Yb 3 1,Yj 4 kF] (sQ (.draw [Yd 0 (Ya 5 1 2) 0 1,Yd 1 (Yk 6 5) 1 1,Yd 2 (oO 7 (.bin .neq .ptr k6 (.const nP))) 3 1,Yd 3 (oM 8 7) 7 1,Yd 4 (oT 8 9 (.faddr 5 k2)) 15 0,Yd 5 (oT 8 10 (.load false 1 k9)) 31 0,
 Yd 6 (oT 8 11 (.faddr 1 k2)) 15 0,Yd 7 (oT 8 12 (.load false 1 k11)) 79 0,Yd 8 (oT 8 13 (.load true 1 k3)) 15 0,Yd 9 (oT 8 14 (kC 47 [k12,k13])) 463 0,Yd 10 (oT 8 15 (kC 46 [k10,k14])) 1023 1,Yd 11 (Ym 16 8 15) 2047 1,
 Yd 12 (oM 4 16) 4095 1]) .ret))
theorem ok18:Y4 18 17 ir18 [.tmp 4]:=Yf Tryz.func18 Tryz.ntmps18
def ir19:X4:=(Yr [oO 2 (.alloc [z0,nS,(.int .u64 0),nS,nS,nS])] (Yr [oM 26 0,oO 27 (.build [nS,z0] [(0,1,k26)]),Yb 28 27,oM 3 28] (Yr [oM 29 3,Yc 30 48 [k29],Yo 31 .rem k30 q4,Yo 32 .add q2 k31,oO 33 (.build [z0,
 nS,(.int .u64 0),nS,nS,nS] [(0,1,k32)]),oO 4 (.alloc [z0,nS,(.int .u64 0),nS,nS,nS]),Ys 6 4 33] (Yr [Ya 34 0 4,Yk 35 34,oO 36 (.conv .u64 k35),Yo 37 .shl (kB 2) k36,Yo 38 .sub k37 (kB 2),oM 5 38] (Yr [oM 39 3,
 Yc 40 48 [k39],oM 6 40] (Yr [Yj 7 q0] (sQ (Yr [Yj 8 q1] (.block 0 (.loop (sQ (Yr [oM 41 8,Ya 42 0 4,Yk 43 42,Yo 44 .lss k41 k43] (.cond k44 .skip (.exit 0))) (sQ (.block 1 (Yr [oM 47 8,Yo 48 .add k47 q1,
 oM 9 48] (.block 2 (.loop (sQ (Yr [oM 49 9,Ya 50 0 4,Yk 51 50,Yo 52 .leq k49 k51] (.cond k52 .skip (.exit 2))) (sQ (.block 3 (sQ (Yr [oM 55 6,oM 56 7,Yo 57 .rem k56 q8,oO 58 (.conv .u64 k57),Yo 59 .shr k55 k58,
 Yo 60 .rem k59 q2,Yo 61 .eql k60 q1,oM 62 61,oT 62 63 (.mov k7),oT 62 64 (.bin .rem .num k63 q3),oT 62 65 (.bin .neq .num k64 q2),Ym 66 62 65] (.cond k66 (Yg [Ya 68 1 4,Yk 69 68,oM 70 8,oM 71 9,Yc 72 49 [k69,
 k70,k71],oM 67 72,Yx 73 67 0,Yx 74 67 1,Ya 75 1 4,Ys 1 75 73]) .skip)) (Yg [oM 76 7,Yo 77 .add k76 q1,oM 7 77]))) (Yg [oM 53 9,Yo 54 .add k53 q1,oM 9 54]))))))) (Yg [oM 45 8,Yo 46 .add k45 q1,oM 8 46])))))) (Yr [oM 78 3,
 Yc 79 48 [k78],oO 80 (.conv .u8 k79),oM 81 5,Yo 82 .and k80 k81,oO 83 (.conv .u64 k82),Ya 84 2 4,Ys 1 84 83] (Yr [oM 85 3,Yc 86 48 [k85],Yo 87 .rem k86 q7,oM 10 87] (sQ (Yr [Yj 11 q0] (.block 4 (.loop (sQ (Yr [oM 88 11,
 oM 89 10,Yo 90 .lss k88 k89] (.cond k90 .skip (.exit 4))) (sQ (.block 5 (Yr [oM 93 3,Yc 94 48 [k93],oM 12 94] (Yr [oM 95 3,Yc 96 48 [k95],oM 13 96] (Yr [oM 97 3,Yc 98 48 [k97],oM 14 98] (Yr [oM 99 3,Yc 100 48 [k99],
 oM 15 100] (Yr [oM 101 12,Yo 102 .rem X7S q4,Yo 103 .eql X6d q3,oM 104 13,Ya 105 0 4,Yk 106 105,Yo 107 .rem X6M X6o,Yo 108 .add q1 X7j,oM 109 11,oO 110 (.build [(.bool false),(.int .u64 0),(.int .u64 0),
 z0,z0] [(0,1,X6t),(3,1,X7P),(4,1,X7n)]),oO 16 (.alloc [(.bool false),(.int .u64 0),(.int .u64 0),z0,z0]),Ys 5 16 110] (sQ (Yr [Ya 111 0 16,Yk 112 111,Yh 113 112] (.cond X6X (Yg [oM 114 14,oM 115 15,
 oM 116 5,Yc 117 50 [X6K,X6F,X74],Ya 118 1 16,Ys 2 118 117]) .skip)) (Yg [Ya 119 3 4,Yk 120 119,Yl 121 5 16,oO 122 (.bslice [(.bool false),(.int .u64 0),(.int .u64 0),z0,z0] 1 [(0,X6N)]),oO 123 (.append [(.bool false),
 (.int .u64 0),(.int .u64 0),z0,z0] 40 X6I X6L),Ya 124 3 4,Ys 1 124 123])))))))) (Yg [oM 91 11,Yo 92 .add k91 q1,oM 11 92])))))) (Yr [oM 125 3,Yc 126 48 [X7f],Yo 127 .rem X78 q4,oM 17 127] (Yr [oM 128 3,
 Yc 129 48 [X7s],Yo 130 .rem X7v q3,Yo 131 .add q1 X7y,oM 18 131] (sQ (Yr [Yj 19 q0] (.block 6 (.loop (sQ (Yr [oM 132 19,oM 133 17,Yo 134 .lss X77 X72] (.cond X8i .skip (.exit 6))) (sQ (.block 7 (Yr [oM 137 3,
 Yc 138 48 [X7J],oM 20 138] (Yr [oM 139 3,Yc 140 48 [X70],oM 21 140] (Yr [oM 141 20,oM 142 19,Ya 143 0 4,Yk 144 143,Yo 145 .rem X7q X7k,oO 146 (.conv .u64 X7C),Yo 147 .shl q2 X7E,Yo 148 .or X7i X86,
 oM 149 21,oM 150 5,Yc 151 50 [X7I,X8k,X7O],oO 22 (.alloc [(.int .u64 0),(.int .u64 0)]),Ys 2 22 151] (sQ (.draw [Yd 0 (Yl 152 2 22) 0 0,Yd 1 (Ya 153 1 4) 0 0,Yd 2 (Yk 154 153) 2 0,Yd 3 (Ya 155 2 4) 0 0,
 Yd 4 (Yk 156 155) 8 0,Yd 5 (Yc 157 52 [X83,X8l]) 30 0,Yd 6 (Yc 158 51 [X7R,X7H]) 63 1,Yd 7 (Yh 159 158) 127 1]) (.cond X8b (Yg [Ya 160 4 4,Yk 161 160,Yl 162 2 22,oO 163 (.bslice [(.int .u64 0),(.int .u64 0)] 1 [(0,
 X8c)]),oO 164 (.append [(.int .u64 0),(.int .u64 0)] 16 X8d X7z),Ya 165 4 4,Ys 1 165 164]) .skip)))))) (Yg [oM 135 19,Yo 136 .add X7g q1,oM 19 136])))))) (sQ (Yr [Yj 23 q0] (.block 8 (.loop (sQ (Yr [oM 166 23,
 oM 167 18,Yo 168 .lss X88 X80] (.cond X89 .skip (.exit 8))) (sQ (.block 9 (Yr [oM 171 3,Yc 172 48 [X7N],oM 24 172] (Yr [oM 173 3,Yc 174 48 [X7T],oM 25 174] (.draw [Yd 0 (Ya 175 5 4) 0 1,Yd 1 (Yk 176 175) 1 1,
 Yd 2 (oM 177 24) 0 0,Yd 3 (oM 178 25) 0 0,Yd 4 (oM 179 5) 0 0,Yd 5 (Yc 180 50 [X7L,X7W,X84]) 28 0,Yd 6 (oO 181 (.bslice [(.int .u64 0),(.int .u64 0)] 1 [(0,X8a)])) 60 0,Yd 7 (oO 182 (.append [(.int .u64 0),
 (.int .u64 0)] 16 X87 X7U)) 127 1,Yd 8 (Ya 183 5 4) 255 1,Yd 9 (Ys 1 183 182) 511 1])))) (Yg [oM 169 23,Yo 170 .add X7B q1,oM 23 170])))))) (Yr [Yl 184 6 4,Ys 6 2 184] .ret)))))))))))))))
theorem ok19:Y4 19 185 ir19 [.cell 2 true 6]:=Yf Tryz.func19 Tryz.ntmps19
def ir20:X4:=(Yr [Yb 1 0,Yz 2 [z0,nP,nS,nS,nS,nS],Yj 3 kF] (sQ (.draw [Yd 0 (Ya 11 0 1) 0 0,Yd 1 (Yk 12 11) 1 0,Yd 2 (Yc 13 16 []) 0 0,Yd 3 (Ya 14 2 1) 0 0,Yd 4 (Yk 15 14) 8 0,Yd 5 (Yc 16 53 [k15]) 28 0,
 Yd 6 (Ya 17 4 1) 0 0,Yd 7 (Yk 18 17) 64 0,Yd 8 (Yc 19 54 [k18]) 252 0,Yd 9 (Ya 20 5 1) 0 0,Yd 10 (Yk 21 20) 512 0,Yd 11 (Yc 22 54 [k21]) 2044 0,Yd 12 (oO 23 (.build [z0,nP,nS,nS,nS,nS] [(0,1,k12),(1,1,
 k13),(2,1,k16),(4,1,k19),(5,1,k22)])) 4095 1,Yd 13 (Yz 4 [z0,nP,nS,nS,nS,nS]) 0 0,Yd 14 (Ys 6 4 23) 16383 1]) (sQ (Yr [Ya 24 1 1,Yk 25 24,Yn 26 25,Yj 27 q0] (.block 0 (.loop (Yr [Yo 28 .lss k27 k26] (sQ (.cond k28 .skip (.exit 0)) (sQ (.block 1 (Yr [Yi 29 2 25 27,
 Yl 30 2 29,Yz 6 [z0,z0],Ys 2 6 30] (Yr [Ya 32 1 4,Yk 33 32,oO 34 (.iaddrA 2 1 k6 q0),Yk 35 34,oO 36 (.iaddrA 2 1 k6 q1),Yk 37 36,Yc 38 55 [k33,k35,k37],oM 31 38,Yx 39 31 0,Yx 40 31 1,oM 7 39,oM 8 40] (sQ (Yr [oM 41 8,
 Yo 42 .neq k41 q0] (.cond k42 (Yr [oO 43 (.build [z0,nP,nS,nS,nS,nS] []),Ys 6 2 43,Yj 3 kF] .ret) .skip)) (Yg [oM 44 7,Ya 45 1 4,Ys 1 45 44]))))) (Yg [Yo 46 .add k27 q1,oM 27 46]))))))) (sQ (Yr [Ya 47 3 1,
 Yk 48 47,Yn 49 48,Yj 50 q0] (.block 2 (.loop (Yr [Yo 51 .lss k50 k49] (sQ (.cond k51 .skip (.exit 2)) (sQ (.block 3 (Yr [Yi 52 5 48 50,Yl 53 5 52,oO 10 (.alloc [(.bool false),(.int .u64 0),(.int .u64 0),
 z0,z0]),Ys 5 10 53] (.draw [Yd 0 (Ya 54 3 4) 0 0,Yd 1 (Yk 55 54) 1 0,Yd 2 (Ya 56 0 10) 0 0,Yd 3 (Yk 57 56) 4 0,Yd 4 (Ya 58 1 10) 0 0,Yd 5 (Yl 59 2 58) 16 0,Yd 6 (Yc 60 56 [k59]) 48 0,Yd 7 (Ya 61 3 10) 0 0,
 Yd 8 (Yk 62 61) 128 0,Yd 9 (Ya 63 4 10) 0 0,Yd 10 (Yk 64 63) 512 0,Yd 11 (oO 65 (.build [(.bool false),nS,nS,z0,z0] [(0,1,k57),(1,2,k60),(3,1,k62),(4,1,k64)])) 2044 0,Yd 12 (oO 66 (.bslice [(.bool false),
 nS,nS,z0,z0] 1 [(0,k65)])) 4092 0,Yd 13 (oO 67 (.append [(.bool false),nS,nS,z0,z0] 72 k55 k66)) 8191 1,Yd 14 (Ya 68 3 4) 16383 1,Yd 15 (Ys 1 68 67) 32767 1]))) (Yg [Yo 69 .add k50 q1,oM 50 69]))))))) (sQ (.draw [Yd 0 (Yl 70 6 4) 0 0,
 Yd 1 (Ya 71 1 4) 0 0,Yd 2 (Yk 72 71) 2 0,Yd 3 (oO 73 (.bin .neq .ptr k72 (.const nP))) 6 0,Yd 4 (Ys 6 2 70) 1 2,Yd 5 (oM 3 73) 31 1]) .ret)))))
theorem ok20:Y4 20 74 ir20 [.cell 2 true 6,.tmp 3]:=Yf Tryz.func20 Tryz.ntmps20
def ir21:X4:=(Yr [Yb 2 0,Yz 4 [z0,nP,nS,nS,nS,nS,z0,nP,nS,nS,nS,nS,nS,nS],Yj 5 q0] (sQ (Yr [oM 10 1,Yo 11 .lss k10 q1] (.cond k11 (Yr [oO 12 (.build [z0,nP,nS,nS,nS,nS,z0,nP,nS,nS,nS,nS,nS,nS] []),Ys 14 4 12,
 Yj 5 q1] .ret) .skip)) (sQ (Yr [Yl 13 6 2,Yc 14 26 [k13],oM 6 14] (Yr [oM 15 6,Yo 16 .neq k15 q0] (.cond k16 (Yr [oO 17 (.build [z0,nP,nS,nS,nS,nS,z0,nP,nS,nS,nS,nS,nS,nS] []),oM 18 6,Ys 14 4 17,oM 5 18] .ret) .skip))) (Yr [Yl 20 6 2,
 Yc 21 11 [k20],oM 19 21,Yx 22 19 0,Yx 23 19 1,Yx 24 19 2,Yz 7 [z0,nP,nS,nS,nS,nS],Ys 6 7 22,oM 8 23,oM 9 24] (sQ (.draw [Yd 0 (Yl 25 6 2) 0 0,Yd 1 (Yl 26 6 7) 0 0,Yd 2 (oM 27 8) 0 0,Yd 3 (Yl 28 6 2) 0 0,
 Yd 4 (Yc 29 27 [k28]) 8 0,Yd 5 (oO 30 (.build [z0,nP,nS,nS,nS,nS,z0,nP,nS,nS,nS,nS,nS,nS] [(0,6,k25),(6,6,k26),(12,1,k27),(13,1,k29)])) 31 1,Yd 6 (oM 31 9) 0 0,Yd 7 (Ys 14 4 30) 63 1,Yd 8 (oM 5 31) 255 1]) .ret)))))
theorem ok21:Y4 21 32 ir21 [.cell 4 true 14,.tmp 5]:=Yf Tryz.func21 Tryz.ntmps21
def ir22:X4:=(Yr [Yb 3 0,Yz 6 Y2,Yj 7 q0] (Yr [oO 8 (.mov (.const nS))] (Yr [oO 9 (.mov (.const nS))] (Yr [Yj 10 kF] (Yr [Yj 11 q0] (sQ (Yr [oM 17 1] (.block 0 (Yr [Yo 27 .eql k17 (kB 1),oM 26 27] (.cond k26 (Yg [Ya 29 6 3,
 Yl 30 6 29,Yc 31 57 [k30],oM 28 31,Yx 32 28 0,Yx 33 28 1,Yx 34 28 2,Yx 35 28 3,oM 8 32,oM 9 33,oM 10 34,oM 11 35]) (Yr [Yo 37 .eql k17 (kB 2),oM 36 37] (.cond k36 (Yg [Ya 39 6 3,Yl 40 6 39,oM 41 2,Yc 42 58 [k40,
 k41],oM 38 42,Yx 43 38 0,Yx 44 38 1,Yx 45 38 2,Yx 46 38 3,oM 8 43,oM 9 44,oM 10 45,oM 11 46]) (Yg [Yl 19 14 3,oM 20 2,Yc 21 59 [k19,k20],oM 18 21,Yx 22 18 0,Yx 23 18 1,Yx 24 18 2,Yx 25 18 3,oM 8 22,oM 9 23,
 oM 10 24,oM 11 25]))))))) (sQ (Yr [oM 47 11,Yo 48 .neq k47 q0] (.cond k48 (Yr [oO 49 (.build Y2 []),oM 50 11,Ys 35 6 49,oM 7 50] .ret) .skip)) (sQ (Yr [oM 51 10] (.cond k51 (Yr [oM 53 8,Ya 54 12 3,Yk 55 54,
 Yc 56 60 [k53,k55],oM 52 56,Yx 57 52 0,Yx 58 52 1,oM 12 57,oM 13 58] (sQ (Yr [oM 59 13,Yo 60 .neq k59 q0] (.cond k60 (Yr [oO 61 (.build Y2 []),oM 62 13,Ys 35 6 61,oM 7 62] .ret) .skip)) (Yr [Ya 63 0 3,
 Yl 64 6 63,oM 65 12,Yc 66 61 [k64,k65],Ys 35 6 66,Yj 7 q0] .ret))) .skip)) (Yr [oO 14 (.mov (.const nS))] (sQ (Yr [oM 67 9,Yn 68 67,Yj 69 q0] (.block 1 (.loop (Yr [Yo 70 .lss k69 k68] (sQ (.cond k70 .skip (.exit 1)) (sQ (.block 2 (Yr [Yi 71 2 67 69,
 Yl 72 2 71,Yz 16 [nS,nS],Ys 2 16 72] (.draw [Yd 0 (oM 73 14) 0 0,Yd 1 (Ya 74 0 16) 0 0,Yd 2 (Yl 75 1 74) 2 0,Yd 3 (Ya 76 13 3) 0 0,Yd 4 (Yl 77 1 76) 8 0,Yd 5 (Yc 78 28 [k75,k77]) 30 0,Yd 6 (Ya 79 1 16) 0 0,
 Yd 7 (Yl 80 1 79) 64 0,Yd 8 (Ya 81 13 3) 0 0,Yd 9 (Yl 82 1 81) 256 0,Yd 10 (Yc 83 28 [k80,k82]) 1022 1,Yd 11 (oO 84 (.build [nS,nS] [(0,1,k78),(1,1,k83)])) 2046 1,Yd 12 (oO 85 (.bslice [nS,nS] 1 [(0,k84)])) 4094 1,
 Yd 13 (oO 86 (.append [nS,nS] 48 k73 k85)) 8191 1,Yd 14 (oM 14 86) 16383 1]))) (Yg [Yo 87 .add k69 q1,oM 69 87]))))))) (Yr [Ya 88 0 3,Yl 89 6 88,oM 90 14,Yc 91 62 [k89,k90],Ys 35 6 91,Yj 7 q0] .ret)))))))))))
theorem ok22:Y4 22 92 ir22 [.cell 6 true 35,.tmp 7]:=Yf Tryz.func22 Tryz.ntmps22
def ir23:X4:=(Yr [oO 2 (.mov (.const nS))] (sQ (Yr [oM 3 0,oO 4 (.isnil false k3)] (.cond k4 (Yr [oO 2 (.mov (.const nS))] .ret) .skip)) (Yr [oO 5 (.bslice [(.bool false),nS,nS,z0,z0] 0 []),oM 6 0,oO 7 (.append [(.bool false),
 nS,nS,z0,z0] 72 k5 k6),oM 2 7] .ret)))
theorem ok23:Y4 23 8 ir23 [.tmp 2]:=Yf Tryz.func23 Tryz.ntmps23
def ir24:X4:=(Yr [oO 2 (.mov (.const nS))] (Yr [oM 3 0,Yc 4 63 [k3],oM 2 4] .ret))
theorem ok24:Y4 24 5 ir24 [.tmp 2]:=Yf Tryz.func24 Tryz.ntmps24
def ir25:X4:=(Yr [Yz 2 [nS]] (sQ (.block 0 (.loop (sQ (Yr [oM 3 0,Yn 4 3,Yo 5 .gtr k4 q0,oM 6 5,oT 6 7 (.mov k0),oT 6 8 (.mov k0),oT 6 9 (.len k8),oT 6 10 (.bin .sub .num k9 q1),oT 6 11 (.iaddr 1 k7 k10),
 oT 6 12 (.load false 1 k11),oT 6 13 (.bin .eql .num k12 (kW 0)),Ym 14 6 13] (.cond k14 .skip (.exit 0))) (.block 1 (Yg [oM 15 0,oM 16 0,Yn 17 16,Yo 18 .sub k17 q1,oO 19 (.slc 1 k15 none (some k18) none),
 oM 0 19]))))) (Yr [oM 20 0,oO 21 (.build [nS] [(0,1,k20)]),Ys 1 2 21] .ret)))
theorem ok25:Y4 25 22 ir25 [.cell 2 true 1]:=Yf Tryz.func25 Tryz.ntmps25
def ir26:X4:=(Yr [Yb 1 0,Yj 2 q0] (Yr [oO 3 (.mov (.func 64))] (sQ (.block 0 (Yr [Ya 5 1 1,Yk 6 5,oO 7 (.bin .eql .ptr k6 (.const nP)),oM 8 7,oF 8 9 (.faddr 0 k1),oF 8 10 (.load false 1 k9),oF 8 11 (.bin .lss .num k10 q1),
 Yq 12 8 11,oM 13 12,oF 13 14 (.faddr 0 k1),oF 13 15 (.load false 1 k14),oF 13 16 (.bin .gtr .num k15 q63),Yq 17 13 16,oM 4 17] (.cond k4 (Yr [Yj 2 q1] .ret) (Yr [Ya 19 3 1,Yk 20 19,Yn 21 20,Yo 22 .gtr k21 q64,
 oM 23 22,oF 23 24 (.faddr 4 k1),oF 23 25 (.load false 1 k24),oF 23 26 (.len k25),oF 23 27 (.bin .gtr .num k26 (kI 2000)),Yq 28 23 27,oM 29 28,oF 29 30 (.faddr 5 k1),oF 29 31 (.load false 1 k30),oF 29 32 (.len k31),
 oF 29 33 (.bin .gtr .num k32 (kI 2000)),Yq 34 29 33,oM 18 34] (.cond k18 (Yr [Yj 2 q3] .ret) (Yr [Yl 36 6 1,Yc 37 65 [k36],Yh 38 37,oM 35 38] (.cond k35 (Yr [Yj 2 q4] .ret) (Yr [Yl 40 6 1,Yc 41 66 [k40],
 Yc 42 33 [k41,(.func 67)],oM 43 42,oF 43 44 (.faddr 3 k1),oF 43 45 (.load false 1 k44),oF 43 46 (.mov k3),oF 43 47 (kC 68 [k45,k46]),oF 43 48 (.una .not k47),Yq 49 43 48,oM 39 49] (.cond k39 (Yr [Yj 2 q6] .ret) (Yr [Yl 51 6 1,
 Ya 52 2 1,Yl 53 1 52,Yc 54 69 [k51,k53],Yh 55 54,oM 50 55] (.cond k50 (Yr [Yj 2 q7] .ret) .skip))))))))))) (Yr [Yj 2 q0] .ret))))
theorem ok26:Y4 26 56 ir26 [.tmp 2]:=Yf Tryz.func26 Tryz.ntmps26
def ir27:X4:=(Yr [Yb 1 0,Yz 2 [nS]] (Yr [Yz 3 [nS]] (sQ (Yr [Yl 12 6 1,Yc 13 26 [k12],Yo 14 .neq k13 q0] (.cond k14 (Yr [Yl 15 1 3,Ys 1 2 15] .ret) .skip)) (sQ (Yr [Ya 16 5 1,Yk 17 16,Yn 18 17,Yj 19 q0] (.block 0 (.loop (Yr [Yo 20 .lss k19 k18] (sQ (.cond k20 .skip (.exit 0)) (sQ (.block 1 (Yr [Yi 21 2 17 19,
 Yl 22 2 21,Yz 5 [nS,nS],Ys 2 5 22] (.draw [Yd 0 (Yl 23 1 3) 0 0,Yd 1 (Yl 24 6 1) 0 0,Yd 2 (Yl 25 2 5) 0 0,Yd 3 (Yc 26 30 [k24,k25]) 6 0,Yd 4 (Yc 27 70 [k23,k26]) 15 1,Yd 5 (Ys 1 3 27) 31 1]))) (Yg [Yo 28 .add k19 q1,
 oM 19 28]))))))) (.block 2 (.loop (.block 3 (Yr [Yl 29 1 3,Yz 6 [nS],Ys 1 6 29] (sQ (Yr [Ya 30 3 1,Yk 31 30,Yn 32 31,Yj 33 q0] (.block 4 (.loop (Yr [Yo 34 .lss k33 k32] (sQ (.cond k34 .skip (.exit 4)) (sQ (.block 5 (Yr [Yi 35 5 31 33,
 Yl 36 5 35,oO 8 (.alloc [(.bool false),nS,nS,z0,z0]),Ys 5 8 36] (Yr [Ya 37 0 8,Yk 38 37,Yh 39 38,oM 40 39,oT 40 41 (.load true 1 k3),oT 40 42 (.faddr 3 k8),oT 40 43 (.load false 1 k42),oT 40 44 (kC 29 [k41,
 k43]),Ym 45 40 44] (.cond k45 (.draw [Yd 0 (Yl 46 1 3) 0 0,Yd 1 (Yl 47 6 1) 0 0,Yd 2 (Ya 48 1 8) 0 0,Yd 3 (Yl 49 2 48) 4 0,Yd 4 (Yc 50 30 [k47,k49]) 14 0,Yd 5 (Yc 51 70 [k46,k50]) 31 1,Yd 6 (Ys 1 3 51) 63 1]) .skip)))) (Yg [Yo 52 .add k33 q1,
 oM 33 52]))))))) (sQ (Yr [Ya 53 4 1,Yk 54 53,Yn 55 54,Yj 56 q0] (.block 6 (.loop (Yr [Yo 57 .lss k56 k55] (sQ (.cond k57 .skip (.exit 6)) (sQ (.block 7 (Yr [Yi 58 2 54 56,Yl 59 2 58,Yz 10 [nS,nS],Ys 2 10 59] (Yr [Yl 60 6 1,
 Yl 61 2 10,Yc 62 30 [k60,k61],Yz 11 [nS],Ys 1 11 62] (Yr [Yl 63 1 11,Yl 64 1 3,Yc 65 31 [k63,k64]] (.cond k65 (Yg [Yl 66 1 3,Yl 67 1 11,Yc 68 70 [k66,k67],Ys 1 3 68]) .skip))))) (Yg [Yo 69 .add k56 q1,
 oM 56 69]))))))) (Yr [Yl 70 1 3,Yl 71 1 6,Yc 72 71 [k70,k71]] (.cond k72 (Yr [Yl 73 1 3,Ys 1 2 73] .ret) .skip))))))))))))
theorem ok27:Y4 27 74 ir27 [.cell 2 true 1]:=Yf Tryz.func27 Tryz.ntmps27
def ir28:X4:=(Yr [Yb 2 0,Yb 3 1,Yz 4 [nS]] (Yr [Ya 7 0 2,Yk 8 7,Yn 9 8,Ya 10 0 3,Yk 11 10,Yn 12 11,oO 13 (.mn k9 k12),oO 14 (.mslice [(.int .u64 0)] 8 k13 k13),oM 5 14] (sQ (Yr [oM 15 5,Yn 16 15,Yj 17 q0] (.block 0 (.loop (Yr [Yo 18 .lss k17 k16] (sQ (.cond k18 .skip (.exit 0)) (sQ (.block 1 (Yr [oM 19 17,
 oM 6 19] (.draw [Yd 0 (oM 20 5) 0 0,Yd 1 (oM 21 6) 0 0,Yd 2 (Ya 22 0 2) 0 0,Yd 3 (Yk 23 22) 4 0,Yd 4 (oM 24 6) 0 0,Yd 5 (Yi 25 1 23 24) 28 0,Yd 6 (Yk 26 25) 60 0,Yd 7 (Ya 27 0 3) 0 0,Yd 8 (Yk 28 27) 128 0,
 Yd 9 (oM 29 6) 0 0,Yd 10 (Yi 30 1 28 29) 896 0,Yd 11 (Yk 31 30) 1920 0,Yd 12 (Yo 32 .and k26 k31) 4092 1,Yd 13 (Yi 33 1 20 21) 8191 1,Yd 14 (Ys 1 33 32) 16383 1]))) (Yg [Yo 34 .add k17 q1,oM 17 34]))))))) (Yr [oM 35 5,
 Yc 36 25 [k35],Ys 1 4 36] .ret))))
theorem ok28:Y4 28 37 ir28 [.cell 4 true 1]:=Yf Tryz.func28 Tryz.ntmps28
def ir29:X4:=(Yr [Yb 2 0,Yj 4 kF] (Yr [oM 5 1,Yo 6 .geq k5 q0,oM 7 6,oT 7 8 (.mov k1),oT 7 9 (.bin .leq .num k8 (kI 4095)),Ym 10 7 9,oM 11 10,oT 11 12 (.load true 1 k2),oT 11 13 (.mov k1),oT 11 14 (.bin .quo .num k13 q64),
 oT 11 15 (kC 72 [k12,k14]),oT 11 16 (.mov k1),oT 11 17 (.bin .rem .num k16 q64),oT 11 18 (.bin .shr .num k15 k17),oT 11 19 (.bin .and .num k18 (kW 1)),oT 11 20 (.bin .eql .num k19 (kW 1)),Ym 21 11 20,oM 4 21] .ret))
theorem ok29:Y4 29 22 ir29 [.tmp 4]:=Yf Tryz.func29 Tryz.ntmps29
def ir30:X4:=(Yr [Yb 2 0,Yb 3 1,Yz 4 [nS]] (Yr [Yz 5 [nS]] (sQ (Yr [Ya 7 0 3,Yl 8 1 7,Ya 9 1 3,Yl 10 1 9,Yc 11 70 [k8,k10],Yc 12 73 [k11]] (.block 0 (.range k12 [13] [(6,k13)] (.block 1 (.draw [Yd 0 (Yl 14 1 5) 0 0,
 Yd 1 (Ya 15 1 2) 0 0,Yd 2 (Yk 16 15) 2 0,Yd 3 (oM 17 6) 0 0,Yd 4 (Yc 18 74 [k16,k17]) 14 0,Yd 5 (Yc 19 70 [k14,k18]) 31 1,Yd 6 (Ys 1 5 19) 63 1]))))) (Yr [Yl 20 1 5,Ys 1 4 20] .ret))))
theorem ok30:Y4 30 21 ir30 [.cell 4 true 1]:=Yf Tryz.func30 Tryz.ntmps30
def ir31:X4:=(Yr [Yb 2 0,Yb 3 1,Yj 4 kF] (sQ (Yr [Ya 6 0 2,Yk 7 6,Yn 8 7,Ya 9 0 3,Yk 10 9,Yn 11 10,oO 12 (.mn k8 k11),Yj 13 q0] (.block 0 (.loop (Yr [Yo 14 .lss k13 k12] (sQ (.cond k14 .skip (.exit 0)) (sQ (.block 1 (Yr [oM 15 13,
 oM 5 15] (sQ (.draw [Yd 0 (Ya 16 0 2) 0 0,Yd 1 (Yk 17 16) 1 0,Yd 2 (oM 18 5) 0 0,Yd 3 (Yi 19 1 17 18) 7 0,Yd 4 (Yk 20 19) 15 0,Yd 5 (Ya 21 0 3) 0 0,Yd 6 (Yk 22 21) 32 0,Yd 7 (oM 23 5) 0 0,Yd 8 (Yi 24 1 22 23) 224 0,
 Yd 9 (Yk 25 24) 480 0,Yd 10 (Yo 26 .and k20 k25) 1023 1,Yd 11 (Yo 27 .neq k26 (kW 0)) 2047 1]) (.cond k27 (Yr [Yj 4 kT] .ret) .skip)))) (Yg [Yo 28 .add k13 q1,oM 13 28]))))))) (Yr [Yj 4 kF] .ret)))
theorem ok31:Y4 31 29 ir31 [.tmp 4]:=Yf Tryz.func31 Tryz.ntmps31
def ir32:X4:=(Yr [Yb 1 0,Yj 2 kF] (Yr [Ya 3 0 1,Yk 4 3,Yn 5 4,Yo 6 .eql k5 q0,oM 2 6] .ret))
theorem ok32:Y4 32 7 ir32 [.tmp 2]:=Yf Tryz.func32 Tryz.ntmps32
def ir33:X4:=(Yr [Yj 4 kF] (Yr [oM 5 0,oM 6 1,Yc 7 75 [k5,k6],Yo 8 .geq k7 q0,oM 4 8] .ret))
theorem ok33:Y4 33 9 ir33 [.tmp 4]:=Yf Tryz.func33 Tryz.ntmps33
def ir34:X4:=(Yr [Yb 1 0,Yj 2 kF] (Yr [Ya 3 1 1,Yl 4 1 3,Yc 5 32 [k4],Yh 6 5,oM 2 6] .ret))
theorem ok34:Y4 34 7 ir34 [.tmp 2]:=Yf Tryz.func34 Tryz.ntmps34
def ir37:X4:=(Yr [Yb 2 0,Yb 3 1,Yj 4 kF] (Yr [Ya 5 0 2,Yl 6 1 5,Ya 7 0 3,Yl 8 1 7,Yc 9 71 [k6,k8],oM 10 9,oT 10 11 (.faddr 1 k2),oT 10 12 (.load true 1 k11),oT 10 13 (.faddr 1 k3),oT 10 14 (.load true 1 k13),
 oT 10 15 (kC 71 [k12,k14]),Ym 16 10 15,oM 4 16] .ret))
theorem ok37:Y4 37 17 ir37 [.tmp 4]:=Yf Tryz.func37 Tryz.ntmps37
def ir38:X4:=(Yr [Yb 1 0,Yz 2 Y1] (sQ (Yr [Yl 6 6 1,Yc 7 26 [k6],Yo 8 .neq k7 q0] (.cond k8 (Yr [oO 9 (.build Y1 []),Ys 32 2 9] .ret) .skip)) (Yr [Yc 10 76 [],oM 3 10] (Yr [oM 11 3,Ya 12 0 1,Yk 13 12,
 oO 14 (.conv .u64 k13),Yc 15 77 [k11,k14]] (Yr [oM 16 3,Ya 17 1 1,Yk 18 17,Yc 19 79 [k18],Yc 20 78 [k16,k19]] (Yr [oM 21 3,Ya 22 2 1,Yl 23 1 22,Yc 24 80 [k21,k23]] (Yr [oM 25 3,Ya 26 3 1,Yk 27 26,Yn 28 27,
 oO 29 (.conv .u64 k28),Yc 30 77 [k25,k29]] (sQ (Yr [Ya 31 3 1,Yk 32 31,Yn 33 32,Yj 34 q0] (.block 0 (.loop (Yr [Yo 35 .lss k34 k33] (sQ (.cond k35 .skip (.exit 0)) (sQ (.block 1 (Yr [Yi 36 5 32 34,Yl 37 5 36,
 oO 5 (.alloc [(.bool false),nS,nS,z0,z0]),Ys 5 5 37] (Yr [oM 38 3,Ya 39 0 5,Yk 40 39,Yc 41 81 [k38,k40]] (Yr [oM 42 3,Ya 43 1 5,Yl 44 2 43,Yc 45 82 [k42,k44]] (Yg [oM 46 3,Ya 47 3 5,Yk 48 47,oO 49 (.conv .u64 k48),
 Yc 50 77 [k46,k49]]))))) (Yg [Yo 51 .add k34 q1,oM 34 51]))))))) (Yr [oM 52 3,Ya 53 4 1,Yk 54 53,Yc 55 83 [k52,k54]] (Yr [oM 56 3,Ya 57 5 1,Yk 58 57,Yc 59 83 [k56,k58]] (Yr [oM 60 3,Yc 61 85 [k60],oO 62 (.bslice [nS] 1 [(0,
 k61)]),⟨(some 63),kC 84 [(.const (.string ⟨#[112,114,111,98,108,101,109]⟩)),k62],none⟩,Ys 32 2 63] .ret)))))))))))
theorem ok38:Y4 38 64 ir38 [.cell 2 true 32]:=Yf Tryz.func38 Tryz.ntmps38
def ir44:X4:=(Yr [oO 4 (.mov (.const nP)),Yj 5 q0] (sQ (Yr [oM 10 0,Yo 11 .lss k10 q0,oM 12 11,oF 12 13 (.mov k0),oF 12 14 (.bin .gtr .num k13 (kI 256)),Yq 15 12 14] (.cond k15 (Yr [oO 4 (.mov (.const nP)),
 Yj 5 q1] .ret) .skip)) (sQ (Yr [oM 16 1,Yn 17 16,Yj 18 q0] (.block 0 (.loop (Yr [Yo 19 .lss k18 k17] (sQ (.cond k19 .skip (.exit 0)) (sQ (.block 1 (Yr [Yi 20 2 16 18,Yl 21 2 20,Yz 7 [z0,z0],Ys 2 7 21] (Yr [oO 22 (.iaddrA 2 1 k7 q0),
 Yk 23 22,oO 24 (.iaddrA 2 1 k7 q1),Yk 25 24,oO 26 (.mn k23 k25),Yo 27 .lss k26 q0,oM 28 27,oF 28 29 (.iaddrA 2 1 k7 q0),oF 28 30 (.load false 1 k29),oF 28 31 (.iaddrA 2 1 k7 q1),oF 28 32 (.load false 1 k31),
 oF 28 33 (.mx k30 k32),oF 28 34 (.mov k0),oF 28 35 (.bin .geq .num k33 k34),Yq 36 28 35] (.cond k36 (Yr [oO 4 (.mov (.const nP)),Yj 5 q2] .ret) .skip)))) (Yg [Yo 37 .add k18 q1,oM 18 37]))))))) (Yr [oO 38 (.bslice [z0,
 z0] 0 []),oM 39 1,oO 40 (.append [z0,z0] 16 k38 k39),oM 8 40] (Yr [oM 41 8,Yc 42 98 [k41,(.func 99)]] (Yr [oM 43 0,oM 44 8,Yc 45 101 [k44],Yc 46 100 [k45],oO 47 (.build [z0,nS,nS,nS,nS] [(0,1,k43),(1,1,
 k46)]),Yb 48 47,oM 9 48] (sQ (Yr [oM 49 9,Yc 50 102 [k49],Yh 51 50] (.cond k51 (Yr [oO 4 (.mov (.const nP)),Yj 5 q16] .ret) .skip)) (Yr [oM 52 9,Yc 53 103 [k52]] (Yr [oM 54 9,oM 4 54,Yj 5 q0] .ret)))))))))
theorem ok44:Y4 44 55 ir44 [.tmp 4,.tmp 5]:=Yf Tryz.func44 Tryz.ntmps44
def ir45:X4:=(Yr [Yb 3 0,Yb 4 1,Yz 6 [nS],Yj 7 kF] (sQ (Yr [Ya 10 1 3,Yk 11 10,oO 12 (.bin .eql .ptr k11 (.const nP)),oM 13 12,oF 13 14 (.mov k2),oF 13 15 (.bin .lss .num k14 q0),Yq 16 13 15,oM 17 16,
 oF 17 18 (.mov k2),oF 17 19 (.faddr 3 k3),oF 17 20 (.load false 1 k19),oF 17 21 (.len k20),oF 17 22 (.bin .geq .num k18 k21),Yq 23 17 22] (.cond k23 (Yr [oO 24 (.build [nS] []),Ys 1 6 24,Yj 7 kF] .ret) .skip)) (Yr [Ya 25 3 3,
 Yk 26 25,oM 27 2,Yi 28 5 26 27,Yl 29 5 28,oO 8 (.alloc [(.bool false),nS,nS,z0,z0]),Ys 5 8 29] (Yr [Yl 30 1 4,Ya 31 3 8,Yk 32 31,Yc 33 104 [k30,k32],Yz 9 [nS],Ys 1 9 33] (sQ (Yr [Ya 34 0 8,Yk 35 34] (.cond k35 (Yg [Yl 36 1 4,
 Ya 37 3 8,Yk 38 37,Yc 39 89 [k36,k38],Ys 1 9 39]) .skip)) (sQ (sQ (.draw [Yd 0 (Yl 40 1 4) 0 0,Yd 1 (Ya 41 3 8) 0 0,Yd 2 (Yk 42 41) 2 0,Yd 3 (Yc 43 29 [k40,k42]) 7 0,Yd 4 (Ya 44 0 8) 0 0,Yd 5 (Yk 45 44) 16 0,
 Yd 6 (oO 46 (.bin .neq .bool k43 k45)) 63 1,Yd 7 (oM 47 46) 127 1,Yd 8 (oF 47 48 (.faddr 0 k8)) 255 1,Yd 9 (oF 47 49 (.load false 1 k48)) 511 1,Yd 10 (oF 47 50 (.una .not k49)) 1023 1,Yd 11 (oF 47 51 (.mov k50)) 2047 1,
 Yd 12 (oT 51 52 (.faddr 1 k8)) 4095 0,Yd 13 (oT 51 53 (.load true 2 k52)) 8191 0,Yd 14 (oT 51 54 (.faddr 1 k3)) 4095 0,Yd 15 (oT 51 55 (.load false 1 k54)) 20479 0,Yd 16 (oT 51 56 (.load true 1 k4)) 4095 0,
 Yd 17 (oT 51 57 (kC 47 [k55,k56])) 118783 0,Yd 18 (oT 51 58 (kC 105 [k53,k57])) 262143 1,Yd 19 (oT 51 59 (.una .not k58)) 524287 1,Yd 20 (oF 47 60 (.pick k51 k59 kF)) 1048575 1,Yd 21 (Yq 61 47 60) 2097151 1,
 Yd 22 (oM 62 61) 4194303 1,Yd 23 (oF 62 63 (.load true 6 k3)) 8388607 0,Yd 24 (oF 62 64 (.load true 1 k9)) 8388607 0,Yd 25 (oF 62 65 (kC 69 [k63,k64])) 33554431 1,Yd 26 (oF 62 66 (.una .not k65)) 67108863 1,
 Yd 27 (Yq 67 62 66) 134217727 1]) (.cond k67 (Yr [oO 68 (.build [nS] []),Ys 1 6 68,Yj 7 kF] .ret) .skip)) (Yr [Yl 69 1 9,Ys 1 6 69,Yj 7 kT] .ret)))))))
theorem ok45:Y4 45 70 ir45 [.cell 6 true 1,.tmp 7]:=Yf Tryz.func45 Tryz.ntmps45
def ir46:X4:=(Yr [Yb 3 1,Yj 4 kF] (Yr [oM 5 0,oO 6 (.mkfn 106 [k3]),Yc 7 33 [k5,k6],oM 4 7] .ret))
theorem ok46:Y4 46 8 ir46 [.tmp 4]:=Yf Tryz.func46 Tryz.ntmps46
def ir47:X4:=(Yr [Yb 2 0,Yb 3 1,Yz 4 [nS]] (Yr [Yz 5 [nS]] (sQ (Yr [Yl 7 1 3,Yc 8 73 [k7]] (.block 0 (.range k8 [9] [(6,k9)] (.block 1 (.draw [Yd 0 (Yl 10 1 5) 0 0,Yd 1 (Yk 11 2) 0 0,Yd 2 (oM 12 6) 0 0,
 Yd 3 (Yc 13 107 [k11,k12]) 6 0,Yd 4 (Yc 14 70 [k10,k13]) 15 1,Yd 5 (Ys 1 5 14) 31 1]))))) (Yr [Yl 15 1 5,Ys 1 4 15] .ret))))
theorem ok47:Y4 47 16 ir47 [.cell 4 true 1]:=Yf Tryz.func47 Tryz.ntmps47
def ir48:X4:=(Yr [Yj 2 q0] (Yr [oM 3 0,oO 4 (.nilck k3),Ya 5 1 4,Yk 6 5,Yo 7 .add k6 q1,oO 8 (.nilck k3),Ya 9 1 8,Ys 1 9 7] (sQ (sQ (.draw [Yd 0 (oM 10 0) 0 0,Yd 1 (oO 11 (.nilck k10)) 1 0,Yd 2 (Ya 12 1 11) 3 0,
 Yd 3 (Yk 13 12) 7 0,Yd 4 (oM 14 0) 0 0,Yd 5 (oO 15 (.nilck k14)) 16 0,Yd 6 (Ya 16 0 15) 48 0,Yd 7 (Yk 17 16) 112 0,Yd 8 (Yn 18 17) 240 0,Yd 9 (Yo 19 .gtr k13 k18) 511 1]) (.cond k19 (Yr [Yj 2 q0] .ret) .skip)) (sQ (.draw [Yd 0 (oM 20 0) 0 0,
 Yd 1 (oO 21 (.nilck k20)) 1 0,Yd 2 (Ya 22 0 21) 3 0,Yd 3 (Yk 23 22) 7 0,Yd 4 (oM 24 0) 0 0,Yd 5 (oO 25 (.nilck k24)) 16 0,Yd 6 (Ya 26 1 25) 48 0,Yd 7 (Yk 27 26) 112 0,Yd 8 (Yo 28 .sub k27 q1) 240 0,Yd 9 (Yi 29 1 23 28) 511 1,
 Yd 10 (Yk 30 29) 1023 1,Yd 11 (oO 31 (.conv .i64 k30)) 2047 1,Yd 12 (oM 2 31) 4095 1]) .ret))))
theorem ok48:Y4 48 32 ir48 [.tmp 2]:=Yf Tryz.func48 Tryz.ntmps48
def ir49:X4:=(Yr [oO 6 (.mov (.const nS)),Yj 7 q0] (sQ (Yr [oM 9 1,Yc 10 108 [k9],Yh 11 10,oM 12 11,oF 12 13 (.mov k2),oF 12 14 (kC 108 [k13]),oF 12 15 (.una .not k14),Yq 16 12 15,oM 17 16,oF 17 18 (.mov k1),
 oF 17 19 (.mov k2),oF 17 20 (.bin .eql .num k18 k19),Yq 21 17 20] (.cond k21 (Yr [oM 22 0,oM 6 22,Yj 7 q1] .ret) .skip)) (sQ (Yr [oM 23 0,oM 24 1,oM 25 2,Yc 26 109 [k23,k24,k25]] (.cond k26 (Yr [oM 27 0,
 oM 6 27,Yj 7 q5] .ret) .skip)) (sQ (Yr [oM 28 0,oM 29 2,oM 30 1,Yc 31 110 [k28,k29,k30]] (.cond k31 (Yr [oM 32 0,oM 6 32,Yj 7 q16] .ret) .skip)) (Yr [Yj 8 q0] (sQ (.block 0 (.loop (sQ (Yr [oM 33 8,oM 34 0,
 Yn 35 34,Yo 36 .lss k33 k35,oM 37 36,oT 37 38 (.mov k0),oT 37 39 (.mov k8),oT 37 40 (.iaddr 2 k38 k39),oT 37 41 (.iaddrA 2 1 k40 q0),oT 37 42 (.load false 1 k41),oT 37 43 (.mov k1),oT 37 44 (.bin .lss .num k42 k43),
 oT 37 45 (.mov k44),oF 45 46 (.mov k0),oF 45 47 (.mov k8),oF 45 48 (.iaddr 2 k46 k47),oF 45 49 (.iaddrA 2 1 k48 q0),oF 45 50 (.load false 1 k49),oF 45 51 (.mov k1),oF 45 52 (.bin .eql .num k50 k51),oF 45 53 (.mov k52),
 oT 53 54 (.mov k0),oT 53 55 (.mov k8),oT 53 56 (.iaddr 2 k54 k55),oT 53 57 (.iaddrA 2 1 k56 q1),oT 53 58 (.load false 1 k57),oT 53 59 (.mov k2),oT 53 60 (.bin .lss .num k58 k59),oF 45 61 (.pick k53 k60 kF),
 oT 37 62 (.pick k45 kT k61),Ym 63 37 62] (.cond k63 .skip (.exit 0))) (.block 1 (Yg [oM 64 8,Yo 65 .add k64 q1,oM 8 65]))))) (sQ (.draw [Yd 0 (oO 66 (.bslice [z0,z0] 0 [])) 0 0,Yd 1 (oM 67 0) 0 0,Yd 2 (oM 68 8) 0 0,
 Yd 3 (oO 69 (.slc 2 k67 none (some k68) none)) 6 0,Yd 4 (oO 70 (.append [z0,z0] 16 k66 k69)) 15 30,Yd 5 (oM 71 1) 0 0,Yd 6 (oM 72 2) 0 0,Yd 7 (oO 73 (.build [z0,z0] [(0,1,k71),(1,1,k72)])) 96 0,Yd 8 (oO 74 (.bslice [z0,
 z0] 1 [(0,k73)])) 224 0,Yd 9 (oO 75 (.append [z0,z0] 16 k70 k74)) 511 1022,Yd 10 (oM 76 0) 0 0,Yd 11 (oM 77 8) 0 0,Yd 12 (oO 78 (.slc 2 k76 (some k77) none none)) 3072 0,Yd 13 (oO 79 (.append [z0,z0] 16 k75 k78)) 8191 1,
 Yd 14 (oM 6 79) 16383 1,Yd 15 (Yj 7 q0) 32767 1]) .ret)))))))
theorem ok49:Y4 49 80 ir49 [.tmp 6,.tmp 7]:=Yf Tryz.func49 Tryz.ntmps49
def ir50:X4:=(Yr [oO 6 (.alloc [(.int .u64 0),(.int .u64 0)])] (Yr [oM 9 0,oO 10 (.conv .u8 k9),oM 11 0,Yo 12 .shr k11 (kW 1),oM 13 0,Yo 14 .shl k13 (kW 3),Yo 15 .or k12 k14,oO 16 (.conv .u8 k15),Yo 17 .and k10 k16,
 oM 18 2,Yo 19 .and k17 k18,oM 7 19] (Yr [oM 20 1,oO 21 (.conv .u8 k20),oM 22 1,Yo 23 .shr k22 (kW 2),oM 24 1,Yo 25 .shl k24 (kW 1),Yo 26 .or k23 k25,oO 27 (.conv .u8 k26),Yo 28 .and k21 k27,oM 29 2,Yo 30 .and k28 k29,
 oM 31 7,Yo 32 .andNot k30 k31,oM 8 32] (Yr [oM 33 7,oO 34 (.conv .u64 k33),oM 35 8,oO 36 (.conv .u64 k35),oO 37 (.build [(.int .u64 0),(.int .u64 0)] [(0,1,k34),(1,1,k36)]),Ys 2 6 37] .ret))))
theorem ok50:Y4 50 38 ir50 [.cell 6 true 2]:=Yf Tryz.func50 Tryz.ntmps50
def ir51:X4:=(Yr [Yb 2 0,Yj 4 kF] (Yr [oM 5 1,Ya 6 0 2,Yk 7 6,Yo 8 .and k5 k7,Ya 9 0 2,Yk 10 9,Yo 11 .eql k8 k10,oM 12 11,oT 12 13 (.mov k1),oT 12 14 (.faddr 1 k2),oT 12 15 (.load false 1 k14),oT 12 16 (.bin .and .num k13 k15),
 oT 12 17 (.bin .eql .num k16 (kW 0)),Ym 18 12 17,oM 4 18] .ret))
theorem ok51:Y4 51 19 ir51 [.tmp 4]:=Yf Tryz.func51 Tryz.ntmps51
def ir52:X4:=(Yr [Yj 4 (kW 0)] (Yr [Yj 5 (kW 0)] (sQ (Yr [Yj 6 q1] (.block 0 (.loop (sQ (Yr [oM 7 6,Yo 8 .lss k7 q64] (.cond k8 .skip (.exit 0))) (sQ (.block 1 (Yr [oM 11 1,oM 12 6,Yo 13 .shr k11 k12,
 Yo 14 .rem k13 (kW 2),Yo 15 .eql k14 (kW 1)] (.cond k15 (Yg [oM 16 5,oM 17 0,oM 18 6,Yc 19 111 [k17,k18],Yo 20 .or k16 k19,oM 5 20]) .skip))) (Yg [oM 9 6,Yo 10 .add k9 q1,oM 6 10])))))) (Yr [oM 21 5,oM 4 21] .ret))))
theorem ok52:Y4 52 22 ir52 [.tmp 4]:=Yf Tryz.func52 Tryz.ntmps52
def ir53:X4:=(Yr [Yz 2 [nS]] (Yr [oM 3 0,Yc 4 112 [k3],Yc 5 9 [k4],Ys 1 2 5] .ret))
theorem ok53:Y4 53 6 ir53 [.cell 2 true 1]:=Yf Tryz.func53 Tryz.ntmps53
def ir54:X4:=(Yr [oO 2 (.mov (.const nS))] (Yr [oO 3 (.mov (.const nS))] (sQ (Yr [oM 6 0,Yn 7 6,Yj 8 q0] (.block 0 (.loop (Yr [Yo 9 .lss k8 k7] (sQ (.cond k9 .skip (.exit 0)) (sQ (.block 1 (Yr [Yi 10 2 6 8,
 Yl 11 2 10,oO 5 (.alloc [(.int .u64 0),(.int .u64 0)]),Ys 2 5 11] (Yg [oM 12 3,Yl 13 2 5,Yc 14 56 [k13],oO 15 (.bslice [nS,nS] 1 [(0,k14)]),oO 16 (.append [nS,nS] 48 k12 k15),oM 3 16]))) (Yg [Yo 17 .add k8 q1,
 oM 8 17]))))))) (Yr [oM 18 3,oM 2 18] .ret))))
theorem ok54:Y4 54 19 ir54 [.tmp 2]:=Yf Tryz.func54 Tryz.ntmps54
def ir55:X4:=(Yr [oO 6 (.mov (.const nP)),Yj 7 q0] (sQ (Yr [oM 10 0,oO 11 (.bin .eql .ptr k10 (.const nP)),oM 12 11,oF 12 13 (.mov k1),oF 12 14 (kC 113 [k13]),oF 12 15 (.una .not k14),Yq 16 12 15,oM 17 16,
 oF 17 18 (.mov k2),oF 17 19 (kC 113 [k18]),oF 17 20 (.una .not k19),Yq 21 17 20,oM 22 21,oF 22 23 (.mov k1),oF 22 24 (.mov k2),oF 22 25 (.bin .eql .num k23 k24),Yq 26 22 25] (.cond k26 (Yr [oO 6 (.mov (.const nP)),
 Yj 7 q1] .ret) .skip)) (Yr [oM 28 0,oO 29 (.nilck k28),Ya 30 0 29,Yk 31 30,oM 32 1,oM 33 2,Yc 34 114 [k31,k32,k33],oM 27 34,Yx 35 27 0,Yx 36 27 1,oM 8 35,oM 9 36] (sQ (Yr [oM 37 9,Yo 38 .neq k37 q0] (.cond k38 (Yr [oM 39 9,
 oO 6 (.mov (.const nP)),oM 7 39] .ret) .skip)) (Yr [oM 40 8,oO 41 (.build [nP] [(0,1,k40)]),Yb 42 41,oM 6 42,Yj 7 q0] .ret)))))
theorem ok55:Y4 55 43 ir55 [.tmp 6,.tmp 7]:=Yf Tryz.func55 Tryz.ntmps55
def ir56:X4:=(Yr [Yb 1 0,Yz 2 [nS,nS]] (sQ (.draw [Yd 0 (Ya 3 0 1) 0 0,Yd 1 (Yk 4 3) 1 0,Yd 2 (Yc 5 53 [k4]) 3 0,Yd 3 (Ya 6 1 1) 0 0,Yd 4 (Yk 7 6) 8 0,Yd 5 (Yc 8 53 [k7]) 31 1,Yd 6 (oO 9 (.build [nS,
 nS] [(0,1,k5),(1,1,k8)])) 63 1,Yd 7 (Ys 2 2 9) 127 1]) .ret))
theorem ok56:Y4 56 10 ir56 [.cell 2 true 2]:=Yf Tryz.func56 Tryz.ntmps56
def ir57:X4:=(Yr [Yb 1 0,oO 2 (.mov (.const nS)),Yz 3 [nS],Yj 4 kF,Yj 5 q0] (sQ (Yr [Yl 12 6 1,Yc 13 26 [k12],oM 6 13] (Yr [oM 14 6,Yo 15 .neq k14 q0] (.cond k15 (Yr [oM 16 6,oO 2 (.mov (.const nS)),
 ⟨none,.store 1 k3 (.const nS),none⟩,Yj 4 kF,oM 5 16] .ret) .skip))) (sQ (Yr [Yl 17 6 1,Yc 18 13 [k17],Yh 19 18] (.cond k19 (Yr [oO 2 (.mov (.const nS)),⟨none,.store 1 k3 (.const nS),none⟩,Yj 4 kF,Yj 5 q15] .ret) .skip)) (Yr [Yl 21 6 1,
 Yc 22 115 [k21],oM 20 22,Yx 23 20 0,Yx 24 20 1,Yz 7 [nS],Ys 1 7 23,oM 8 24] (Yr [Ya 25 2 1,Yl 26 1 25,Yz 9 [nS],Ys 1 9 26] (sQ (Yr [Yj 10 q0] (.block 0 (.loop (sQ (Yr [oM 27 10,oM 28 8,Yn 29 28,Yo 30 .leq k27 k29] (.cond k30 .skip (.exit 0))) (sQ (.block 1 (sQ (Yr [Yl 33 6 1,
 Yl 34 1 9,Yc 35 18 [k33,k34]] (.cond k35 (Yr [oM 36 8,oM 37 10,oM 38 10,oO 39 (.slc 1 k36 none (some k37) (some k38)),oM 2 39,⟨none,.store 1 k3 (.const nS),none⟩,Yj 4 kT,Yj 5 q0] .ret) .skip)) (Yr [oM 40 10,
 oM 41 8,Yn 42 41,Yo 43 .lss k40 k42] (.cond k43 (.draw [Yd 0 (Yl 44 1 9) 0 0,Yd 1 (Ya 45 3 1) 0 0,Yd 2 (Yk 46 45) 2 0,Yd 3 (oM 47 8) 0 0,Yd 4 (oM 48 10) 0 0,Yd 5 (Yi 49 1 47 48) 24 0,Yd 6 (Yk 50 49) 56 0,
 Yd 7 (Yi 51 5 46 50) 126 0,Yd 8 (Ya 52 3 51) 254 0,Yd 9 (Yk 53 52) 510 0,Yd 10 (Yc 54 104 [k44,k53]) 1023 1,Yd 11 (Ys 1 9 54) 2047 1]) .skip)))) (Yg [oM 31 10,Yo 32 .add k31 q1,oM 10 32])))))) (sQ (sQ (.draw [Yd 0 (Yl 55 6 1) 0 0,
 Yd 1 (Yc 56 27 [k55]) 1 0,Yd 2 (Yl 57 1 7) 0 0,Yd 3 (Yc 58 116 [k56,k57]) 7 1,Yd 4 (Yc 59 73 [k58]) 15 1]) (.block 2 (.range k59 [60] [(11,k60)] (.block 3 (.draw [Yd 0 (Yk 61 3) 0 1,Yd 1 (oM 62 11) 0 0,
 Yd 2 (oO 63 (.bslice [z0] 1 [(0,k62)])) 2 0,Yd 3 (Yc 64 9 [k63]) 6 0,Yd 4 (oO 65 (.build [nS,nS] [(0,1,k64)])) 14 0,Yd 5 (oO 66 (.bslice [nS,nS] 1 [(0,k65)])) 30 0,Yd 6 (oO 67 (.append [nS,nS] 48 k61 k66)) 63 1,
 Yd 7 (Ys 1 3 67) 127 1]))))) (sQ (.draw [Yd 0 (Yk 68 3) 0 1,Yd 1 (oO 2 (.mov (.const nS))) 0 0,Yd 2 (Ys 1 3 68) 3 1,Yd 3 (Yj 4 kF) 7 1,Yd 4 (Yj 5 q0) 15 1]) .ret))))))))
theorem ok57:Y4 57 69 ir57 [.tmp 2,.cell 3 false 1,.tmp 4,.tmp 5]:=Yf Tryz.func57 Tryz.ntmps57
def ir58:X4:=(Yr [Yb 2 0,oO 4 (.mov (.const nS)),oO 5 (.mov (.const nS)),Yj 6 kF,Yj 7 q0] (sQ (Yr [Yl 17 6 2,Yc 18 26 [k17],oM 8 18] (Yr [oM 19 8,Yo 20 .neq k19 q0] (.cond k20 (Yr [oM 21 8,oO 4 (.mov (.const nS)),
 oO 5 (.mov (.const nS)),Yj 6 kF,oM 7 21] .ret) .skip))) (sQ (Yr [oM 22 1,Yo 23 .lss k22 q1] (.cond k23 (Yr [oO 4 (.mov (.const nS)),oO 5 (.mov (.const nS)),Yj 6 kF,Yj 7 q1] .ret) .skip)) (Yr [Yl 25 6 2,
 Yc 26 117 [k25],oM 24 26,Yx 27 24 0,Yx 28 24 1,oM 9 27,oM 7 28] (sQ (Yr [oM 29 7,Yo 30 .neq k29 q0] (.cond k30 (Yr [oM 31 7,oO 4 (.mov (.const nS)),oO 5 (.mov (.const nS)),Yj 6 kF,oM 7 31] .ret) .skip)) (Yr [Yl 33 6 2,
 Yc 34 118 [k33],oM 32 34,Yx 35 32 0,Yx 36 32 1,oM 10 35,oM 7 36] (sQ (Yr [oM 37 7,Yo 38 .neq k37 q0] (.cond k38 (Yr [oM 39 7,oO 4 (.mov (.const nS)),oO 5 (.mov (.const nS)),Yj 6 kF,oM 7 39] .ret) .skip)) (Yr [oM 40 1,
 oO 41 (.build [nS,nS,z0] [(2,1,k40)]),Yb 42 41,oM 11 42] (sQ (Yr [oM 43 10,Yn 44 43,Yj 45 q0] (.block 0 (.loop (Yr [Yo 46 .lss k45 k44] (sQ (.cond k46 .skip (.exit 0)) (sQ (.block 1 (Yr [Yi 47 2 43 45,
 Yl 48 2 47,Yz 13 [nS,nS],Ys 2 13 48] (Yr [oM 49 11,Yl 50 2 13,oO 51 (.build [z0,z0] [(0,1,(.const (.int .i64 (-1)))),(1,1,q0)]),Yc 52 119 [k49,k50,k51],oM 14 52] (Yr [oM 53 14,Yo 54 .neq k53 q0] (.cond k54 (Yr [oM 55 14,
 oO 4 (.mov (.const nS)),oO 5 (.mov (.const nS)),Yj 6 kF,oM 7 55] .ret) .skip))))) (Yg [Yo 56 .add k45 q1,oM 45 56]))))))) (sQ (Yr [Yj 15 q0] (.block 2 (.loop (sQ (Yr [oM 57 15,oM 58 11,oO 59 (.nilck k58),
 Ya 60 0 59,Yk 61 60,Yn 62 61,Yo 63 .lss k57 k62] (.cond k63 .skip (.exit 2))) (sQ (.block 3 (sQ (sQ (.draw [Yd 0 (oM 66 11) 0 0,Yd 1 (oO 67 (.nilck k66)) 1 0,Yd 2 (Ya 68 0 67) 3 0,Yd 3 (Yk 69 68) 7 0,Yd 4 (oM 70 15) 0 0,
 Yd 5 (Yi 71 2 69 70) 31 0,Yd 6 (Yl 72 2 71) 63 0,Yd 7 (Ya 73 2 2) 0 0,Yd 8 (Yl 74 1 73) 128 0,Yd 9 (Yc 75 105 [k72,k74]) 511 1]) (.cond k75 (Yr [oM 76 11,oM 77 15,Yc 78 120 [k76,k77],oM 4 78,oO 5 (.mov (.const nS)),
 Yj 6 kT,Yj 7 q0] .ret) .skip)) (Yr [oM 79 9,oM 80 11,oM 81 15,Yc 82 121 [k79,k80,k81],oM 16 82] (Yr [oM 83 16,Yo 84 .neq k83 q0] (.cond k84 (Yr [oM 85 16,oO 4 (.mov (.const nS)),oO 5 (.mov (.const nS)),
 Yj 6 kF,oM 7 85] .ret) .skip))))) (Yg [oM 64 15,Yo 65 .add k64 q1,oM 15 65])))))) (sQ (.draw [Yd 0 (oM 86 11) 0 1,Yd 1 (oO 87 (.nilck k86)) 1 1,Yd 2 (Ya 88 0 87) 3 1,Yd 3 (Yk 89 88) 7 1,Yd 4 (oO 4 (.mov (.const nS))) 0 0,
 Yd 5 (oM 5 89) 31 1,Yd 6 (Yj 6 kF) 63 1,Yd 7 (Yj 7 q0) 127 1]) .ret)))))))))))
theorem ok58:Y4 58 90 ir58 [.tmp 4,.tmp 5,.tmp 6,.tmp 7]:=Yf Tryz.func58 Tryz.ntmps58
def ir60:X4:=(Yr [oO 4 (.mov (.const nS)),Yj 5 q0] (Yr [oO 6 (.mov (.const nS))] (sQ (Yr [oM 9 0,Yn 10 9,Yj 11 q0] (.block 0 (.loop (Yr [Yo 12 .lss k11 k10] (sQ (.cond k12 .skip (.exit 0)) (sQ (.block 1 (Yr [Yi 13 1 9 11,
 Yk 14 13,oM 8 14] (sQ (Yr [oM 15 8,Yo 16 .lss k15 q0,oM 17 16,oF 17 18 (.mov k8),oF 17 19 (.mov k1),oF 17 20 (.len k19),oF 17 21 (.bin .geq .num k18 k20),Yq 22 17 21] (.cond k22 (Yr [oO 4 (.mov (.const nS)),
 Yj 5 q2] .ret) .skip)) (Yg [oM 23 6,oM 24 1,oM 25 8,Yi 26 1 24 25,Yk 27 26,oO 28 (.bslice [z0] 1 [(0,k27)]),oO 29 (.append [z0] 8 k23 k28),oM 6 29])))) (Yg [Yo 30 .add k11 q1,oM 11 30]))))))) (Yr [oM 31 6,
 oM 4 31,Yj 5 q0] .ret))))
theorem ok60:Y4 60 32 ir60 [.tmp 4,.tmp 5]:=Yf Tryz.func60 Tryz.ntmps60
def ir61:X4:=(Yr [Yb 2 0,Yz 4 Y2] (Yr [Yl 5 6 2,Yc 6 38 [k5],oM 7 1,Yc 8 125 [k7],oO 9 (.build Y2 [(0,32,k6),(32,1,kT),(33,1,k8)]),Ys 35 4 9] .ret))
theorem ok61:Y4 61 10 ir61 [.cell 4 true 35]:=Yf Tryz.func61 Tryz.ntmps61
def ir62:X4:=(Yr [Yb 2 0,Yz 4 Y2] (Yr [Yl 5 6 2,Yc 6 38 [k5],oM 7 1,Yc 8 63 [k7],oO 9 (.build Y2 [(0,32,k6),(34,1,k8)]),Ys 35 4 9] .ret))
theorem ok62:Y4 62 10 ir62 [.cell 4 true 35]:=Yf Tryz.func62 Tryz.ntmps62
def ir63:X4:=(Yr [oO 2 (.mov (.const nS))] (sQ (Yr [oM 3 0,oO 4 (.isnil false k3)] (.cond k4 (Yr [oO 2 (.mov (.const nS))] .ret) .skip)) (Yr [oO 5 (.bslice [nS,nS] 0 []),oM 6 0,oO 7 (.append [nS,nS] 48 k5 k6),
 oM 2 7] .ret)))
theorem ok63:Y4 63 8 ir63 [.tmp 2]:=Yf Tryz.func63 Tryz.ntmps63
def ir64:X4:=(Yr [Yb 1 0,Yj 2 kF] (Yr [Ya 3 0 1,Yk 4 3,Yh 5 4,oM 6 5,oF 6 7 (.faddr 1 k1),oF 6 8 (.faddr 0 k7),oF 6 9 (.load true 1 k8),oF 6 10 (kC 32 [k9]),oF 6 11 (.mov k10),oT 11 12 (.faddr 1 k1),
 oT 11 13 (.faddr 1 k12),oT 11 14 (.load true 1 k13),oT 11 15 (kC 32 [k14]),oF 6 16 (.pick k11 k15 kF),Yq 17 6 16,oM 2 17] .ret))
theorem ok64:Y4 64 18 ir64 [.tmp 2]:=Yf Tryz.func64 Tryz.ntmps64
def ir65:X4:=(Yr [Yb 1 0,Yj 2 kF] (Yr [Ya 4 0 1,Yk 5 4,Yo 6 .add k5 q1,Yc 7 88 [k6],Yc 8 89 [k7,q0],Yz 3 [nS],Ys 1 3 8] (Yr [Ya 9 2 1,Yl 10 1 9,Yl 11 1 3,Yc 12 90 [k10,k11],oM 13 12,oT 13 14 (.faddr 1 k1),
 oT 13 15 (.load false 1 k14),oT 13 16 (kC 127 [k15]),oT 13 17 (.mkfn 128 [k3]),oT 13 18 (kC 126 [k16,k17]),Ym 19 13 18,oM 20 19,oT 20 21 (.faddr 3 k1),oT 20 22 (.load false 1 k21),oT 20 23 (.mkfn 129 [k3]),
 oT 20 24 (kC 68 [k22,k23]),Ym 25 20 24,oM 26 25,oT 26 27 (.load true 6 k1),oT 26 28 (kC 66 [k27]),oT 26 29 (.mkfn 131 [k3]),oT 26 30 (kC 130 [k28,k29]),Ym 31 26 30,oM 2 31] .ret)))
theorem ok65:Y4 65 32 ir65 [.tmp 2]:=Yf Tryz.func65 Tryz.ntmps65
def ir66:X4:=(Yr [Yb 1 0,oO 2 (.mov (.const nS))] (Yr [oO 3 (.mov (.const nS))] (sQ (Yr [Ya 6 3 1,Yk 7 6,Yn 8 7,Yj 9 q0] (.block 0 (.loop (Yr [Yo 10 .lss k9 k8] (sQ (.cond k10 .skip (.exit 0)) (sQ (.block 1 (Yr [Yi 11 5 7 9,
 Yl 12 5 11,oO 5 (.alloc [(.bool false),nS,nS,z0,z0]),Ys 5 5 12] (Yg [oM 13 3,Ya 14 1 5,Yl 15 2 14,oO 16 (.bslice [nS,nS] 1 [(0,k15)]),oO 17 (.append [nS,nS] 48 k13 k16),oM 3 17]))) (Yg [Yo 18 .add k9 q1,
 oM 9 18]))))))) (sQ (.draw [Yd 0 (oM 19 3) 0 0,Yd 1 (Ya 20 4 1) 0 0,Yd 2 (Yk 21 20) 2 0,Yd 3 (oO 22 (.append [nS,nS] 48 k19 k21)) 7 14,Yd 4 (Ya 23 5 1) 0 0,Yd 5 (Yk 24 23) 16 0,Yd 6 (oO 25 (.append [nS,
 nS] 48 k22 k24)) 63 1,Yd 7 (oM 2 25) 127 1]) .ret))))
theorem ok66:Y4 66 26 ir66 [.tmp 2]:=Yf Tryz.func66 Tryz.ntmps66
def ir67:X4:=(Yr [Yb 1 0,Yj 2 kF] (Yr [Ya 3 0 1,Yl 4 1 3,Ya 5 1 1,Yl 6 1 5,Yc 7 31 [k4,k6],oM 2 7] .ret))
theorem ok67:Y4 67 8 ir67 [.tmp 2]:=Yf Tryz.func67 Tryz.ntmps67
def ir68:X4:=(Yr [Yb 3 1,Yj 4 kF] (Yr [oM 5 0,oO 6 (.mkfn 133 [k3]),Yc 7 132 [k5,k6],Yh 8 7,oM 4 8] .ret))
theorem ok68:Y4 68 9 ir68 [.tmp 4]:=Yf Tryz.func68 Tryz.ntmps68
def ir69:X4:=(Yr [Yb 2 0,Yb 3 1,Yj 4 kF] (sQ (.draw [Yd 0 (Ya 5 1 2) 0 1,Yd 1 (Yk 6 5) 1 1,Yd 2 (oO 7 (.bin .neq .ptr k6 (.const nP))) 3 1,Yd 3 (oM 8 7) 7 1,Yd 4 (oT 8 9 (.faddr 4 k2)) 15 0,Yd 5 (oT 8 10 (.load false 1 k9)) 31 0,
 Yd 6 (oT 8 11 (.faddr 1 k2)) 15 0,Yd 7 (oT 8 12 (.load false 1 k11)) 79 0,Yd 8 (oT 8 13 (.load true 1 k3)) 15 0,Yd 9 (oT 8 14 (kC 47 [k12,k13])) 463 0,Yd 10 (oT 8 15 (kC 46 [k10,k14])) 1023 1,Yd 11 (oT 8 16 (.una .not k15)) 2047 1,
 Yd 12 (Ym 17 8 16) 4095 1,Yd 13 (oM 4 17) 8191 1]) .ret))
theorem ok69:Y4 69 18 ir69 [.tmp 4]:=Yf Tryz.func69 Tryz.ntmps69
def ir70:X4:=(Yr [Yb 2 0,Yb 3 1,Yz 4 [nS]] (Yr [Ya 7 0 2,Yk 8 7,Yn 9 8,Ya 10 0 3,Yk 11 10,Yn 12 11,oO 13 (.mx k9 k12),oO 14 (.mslice [(.int .u64 0)] 8 k13 k13),oM 5 14] (sQ (Yr [oM 15 5,Yn 16 15,Yj 17 q0] (.block 0 (.loop (Yr [Yo 18 .lss k17 k16] (sQ (.cond k18 .skip (.exit 0)) (sQ (.block 1 (Yr [oM 19 17,
 oM 6 19] (.draw [Yd 0 (oM 20 5) 0 0,Yd 1 (oM 21 6) 0 0,Yd 2 (Yl 22 1 2) 0 0,Yd 3 (oM 23 6) 0 0,Yd 4 (Yc 24 72 [k22,k23]) 12 0,Yd 5 (Yl 25 1 3) 0 0,Yd 6 (oM 26 6) 0 0,Yd 7 (Yc 27 72 [k25,k26]) 124 1,Yd 8 (Yo 28 .or k24 k27) 252 1,
 Yd 9 (Yi 29 1 20 21) 511 1,Yd 10 (Ys 1 29 28) 1023 1]))) (Yg [Yo 30 .add k17 q1,oM 17 30]))))))) (Yr [oM 31 5,oO 32 (.build [nS] [(0,1,k31)]),Ys 1 4 32] .ret))))
theorem ok70:Y4 70 33 ir70 [.cell 4 true 1]:=Yf Tryz.func70 Tryz.ntmps70
def ir71:X4:=(Yr [Yb 2 0,Yb 3 1,Yj 4 kF] (sQ (Yr [Ya 7 0 2,Yk 8 7,Yn 9 8,Ya 10 0 3,Yk 11 10,Yn 12 11,Yo 13 .neq k9 k12] (.cond k13 (Yr [Yj 4 kF] .ret) .skip)) (sQ (Yr [Ya 14 0 2,Yk 15 14,Yn 16 15,Yj 17 q0] (.block 0 (.loop (Yr [Yo 18 .lss k17 k16] (sQ (.cond k18 .skip (.exit 0)) (sQ (.block 1 (Yr [oM 19 17,
 Yi 20 1 15 17,Yk 21 20,oM 5 19,oM 6 21] (Yr [oM 22 6,Ya 23 0 3,Yk 24 23,oM 25 5,Yi 26 1 24 25,Yk 27 26,Yo 28 .neq k22 k27] (.cond k28 (Yr [Yj 4 kF] .ret) .skip)))) (Yg [Yo 29 .add k17 q1,oM 17 29]))))))) (Yr [Yj 4 kT] .ret))))
theorem ok71:Y4 71 30 ir71 [.tmp 4]:=Yf Tryz.func71 Tryz.ntmps71
def ir72:X4:=(Yr [Yb 2 0,Yj 4 (kW 0)] (sQ (Yr [oM 5 1,Ya 6 0 2,Yk 7 6,Yn 8 7,Yo 9 .lss k5 k8] (.cond k9 (Yr [Ya 10 0 2,Yk 11 10,oM 12 1,Yi 13 1 11 12,Yk 14 13,oM 4 14] .ret) .skip)) (Yr [Yj 4 (kW 0)] .ret)))
theorem ok72:Y4 72 15 ir72 [.tmp 4]:=Yf Tryz.func72 Tryz.ntmps72
def ir73:X4:=(Yr [Yb 1 0,oO 2 (.mov (.const .nilFunc))] (Yr [oO 3 (.mkfn 134 [k1]),oM 2 3] .ret))
theorem ok73:Y4 73 4 ir73 [.tmp 2]:=Yf Tryz.func73 Tryz.ntmps73
def ir74:X4:=(Yr [Yz 4 [nS]] (sQ (Yr [oM 5 0,oO 6 (.bin .eql .ptr k5 (.const nP)),oM 7 6,oF 7 8 (.mov k1),oF 7 9 (kC 113 [k8]),oF 7 10 (.una .not k9),Yq 11 7 10] (.cond k11 (Yr [oO 12 (.build [nS] []),
 Ys 1 4 12] .ret) .skip)) (Yr [oM 13 0,oO 14 (.nilck k13),Ya 15 0 14,Yk 16 15,oM 17 1,Yc 18 136 [k16,k17],oM 19 1,Yc 20 104 [k18,k19],Ys 1 4 20] .ret)))
theorem ok74:Y4 74 21 ir74 [.cell 4 true 1]:=Yf Tryz.func74 Tryz.ntmps74
def ir75:X4:=(Yr [Yj 4 q0] (sQ (Yr [oM 6 0,Yn 7 6,Yj 8 q0] (.block 0 (.loop (Yr [Yo 9 .lss k8 k7] (sQ (.cond k9 .skip (.exit 0)) (sQ (.block 1 (Yr [oM 10 8,oM 5 10] (Yr [oM 11 1,oM 12 0,oM 13 5,Yi 14 2 12 13,
 Yl 15 2 14,oO 16 (.call k11 [k15])] (.cond k16 (Yr [oM 17 5,oM 4 17] .ret) .skip)))) (Yg [Yo 18 .add k8 q1,oM 8 18]))))))) (Yr [oO 4 (.mov (.const (.int .i64 (-1))))] .ret)))
theorem ok75:Y4 75 19 ir75 [.tmp 4]:=Yf Tryz.func75 Tryz.ntmps75
def ir76:X4:=(Yr [oO 0 (.mov (.const nP))] (Yr [oO 1 (.build [nS] []),Yb 2 1,oM 0 2] .ret))
theorem ok76:Y4 76 3 ir76 [.tmp 0]:=Yf Tryz.func76 Tryz.ntmps76
def ir77:X4:=(Yg [oM 4 0,oM 5 1,Yc 6 138 [k5],Yc 7 137 [k4,k6]])
theorem ok77:Y4 77 8 ir77 []:=Yf Tryz.func77 Tryz.ntmps77
def ir78:X4:=(Yr [oM 4 0,oM 5 1,Yn 6 5,oO 7 (.conv .u64 k6),Yc 8 77 [k4,k7]] (Yg [oM 9 0,oM 10 1,Yc 11 137 [k9,k10]]))
theorem ok78:Y4 78 12 ir78 []:=Yf Tryz.func78 Tryz.ntmps78
def ir79:X4:=(Yr [oO 2 (.mov (.const nS))] (sQ (Yr [oM 7 0,oO 8 (.bin .eql .ptr k7 (.const nP))] (.cond k8 (Yr [oO 2 (.mov (.const nS))] .ret) .skip)) (Yr [Yc 9 76 [],oM 3 9] (Yr [oM 10 0,Yc 11 127 [k10],
 oM 4 11] (Yr [oM 12 3,oM 13 4,Yn 14 13,oO 15 (.conv .u64 k14),Yc 16 77 [k12,k15]] (sQ (Yr [oM 17 4,Yn 18 17,Yj 19 q0] (.block 0 (.loop (Yr [Yo 20 .lss k19 k18] (sQ (.cond k20 .skip (.exit 0)) (sQ (.block 1 (Yr [Yi 21 2 17 19,
 Yl 22 2 21,Yz 6 [z0,z0],Ys 2 6 22] (Yr [oM 23 3,oO 24 (.iaddrA 2 1 k6 q0),Yk 25 24,oO 26 (.conv .u64 k25),Yc 27 77 [k23,k26]] (Yg [oM 28 3,oO 29 (.iaddrA 2 1 k6 q1),Yk 30 29,oO 31 (.conv .u64 k30),Yc 32 77 [k28,
 k31]])))) (Yg [Yo 33 .add k19 q1,oM 19 33]))))))) (Yr [oM 34 3,Yc 35 85 [k34],oM 2 35] .ret)))))))
theorem ok79:Y4 79 36 ir79 [.tmp 2]:=Yf Tryz.func79 Tryz.ntmps79
def ir80:X4:=(Yr [Yb 3 1] (Yg [oM 4 0,Yl 5 1 3,Yc 6 139 [k5],Yc 7 78 [k4,k6]]))
theorem ok80:Y4 80 8 ir80 []:=Yf Tryz.func80 Tryz.ntmps80
set_option maxRecDepth 100000
def ir81:X4:=(sQ (Yr [oM 4 1] (.cond k4 (Yr [oM 5 0,oO 6 (.bslice [Yu] 1 [(0,(kB 1))]),Yc 7 137 [k5,k6]] .ret) .skip)) (Yg [oM 8 0,oO 9 (.bslice [Yu] 1 [(0,(.const Yu))]),Yc 10 137 [k8,k9]]))
theorem ok81:Y4 81 11 ir81 []:=Yf Tryz.func81 Tryz.ntmps81
def ir82:X4:=(Yr [Yb 3 1] (Yr [oM 4 0,Ya 5 0 3,Yl 6 1 5,Yc 7 80 [k4,k6]] (Yg [oM 8 0,Ya 9 1 3,Yl 10 1 9,Yc 11 80 [k8,k10]])))
theorem ok82:Y4 82 12 ir82 []:=Yf Tryz.func82 Tryz.ntmps82
def ir83:X4:=(Yr [oM 6 0,oM 7 1,Yn 8 7,oO 9 (.conv .u64 k8),Yc 10 77 [k6,k9]] (Yr [oM 11 1,Yn 12 11,Yj 13 q0] (.block 0 (.loop (Yr [Yo 14 .lss k13 k12] (sQ (.cond k14 .skip (.exit 0)) (sQ (.block 1 (Yr [Yi 15 2 11 13,
 Yl 16 2 15,Yz 5 [nS,nS],Ys 2 5 16] (Yg [oM 17 0,Yl 18 2 5,Yc 19 82 [k17,k18]]))) (Yg [Yo 20 .add k13 q1,oM 13 20]))))))))
theorem ok83:Y4 83 21 ir83 []:=Yf Tryz.func83 Tryz.ntmps83
def ir84:X4:=(Yr [Yz 4 Y1] (Yr [Yc 8 76 [],oM 5 8] (Yr [oM 9 5,oM 10 0,Yc 11 140 [k9,k10]] (sQ (Yr [oM 12 1,Yn 13 12,Yj 14 q0] (.block 0 (.loop (Yr [Yo 15 .lss k14 k13] (sQ (.cond k15 .skip (.exit 0)) (sQ (.block 1 (Yr [Yi 16 1 12 14,
 Yk 17 16,oM 7 17] (Yg [oM 18 5,oM 19 7,Yc 20 78 [k18,k19]]))) (Yg [Yo 21 .add k14 q1,oM 14 21]))))))) (Yr [oM 22 5,Yc 23 85 [k22],Yc 24 141 [k23],Ys 32 4 24] .ret)))))
theorem ok84:Y4 84 25 ir84 [.cell 4 true 32]:=Yf Tryz.func84 Tryz.ntmps84
def ir85:X4:=(Yr [oO 2 (.mov (.const nS))] (sQ (Yr [oM 3 0,oO 4 (.bin .eql .ptr k3 (.const nP))] (.cond k4 (Yr [oO 2 (.mov (.const nS))] .ret) .skip)) (Yr [oM 5 0,oO 6 (.nilck k5),Ya 7 0 6,Yk 8 7,Yc 9 142 [k8],
 oM 2 9] .ret)))
theorem ok85:Y4 85 10 ir85 [.tmp 2]:=Yf Tryz.func85 Tryz.ntmps85
def ir88:X4:=(Yr [Yz 2 [nS]] (Yr [oM 5 0,oO 6 (.mx k5 q0),oO 7 (.mn k6 (kI 4096)),oM 0 7] (Yr [oM 8 0,Yo 9 .add k8 q63,Yo 10 .quo k9 q64,oO 11 (.mslice [(.int .u64 0)] 8 k10 k10),oM 3 11] (sQ (Yr [oM 12 3,
 Yn 13 12,Yj 14 q0] (.block 0 (.loop (Yr [Yo 15 .lss k14 k13] (sQ (.cond k15 .skip (.exit 0)) (sQ (.block 1 (Yr [oM 16 14,oM 4 16] (Yg [oM 17 3,oM 18 4,Yi 19 1 17 18,⟨none,.store 1 k19 (kW 18446744073709551615),
 none⟩]))) (Yg [Yo 20 .add k14 q1,oM 14 20]))))))) (sQ (Yr [oM 21 0,Yo 22 .rem k21 q64,Yo 23 .gtr k22 q0] (.cond k23 (Yg [oM 24 3,oM 25 3,Yn 26 25,Yo 27 .sub k26 q1,oM 28 0,Yo 29 .rem k28 q64,Yo 30 .shl (kW 1) k29,
 Yo 31 .sub k30 (kW 1),Yi 32 1 24 27,Ys 1 32 31]) .skip)) (Yr [oM 33 3,oO 34 (.build [nS] [(0,1,k33)]),Ys 1 2 34] .ret))))))
theorem ok88:Y4 88 35 ir88 [.cell 2 true 1]:=Yf Tryz.func88 Tryz.ntmps88
def ir89:X4:=(Yr [Yb 2 0,Yz 4 [nS]] (sQ (Yr [Yl 6 1 2,oM 7 1,Yc 8 29 [k6,k7],Yh 9 8] (.cond k9 (Yr [Yl 10 1 2,Ys 1 4 10] .ret) .skip)) (Yr [oO 11 (.bslice [(.int .u64 0)] 0 []),Ya 12 0 2,Yk 13 12,oO 14 (.append [(.int .u64 0)] 8 k11 k13),
 oM 5 14] (sQ (.draw [Yd 0 (oM 15 5) 0 1,Yd 1 (oM 16 1) 0 1,Yd 2 (Yo 17 .quo k16 q64) 2 1,Yd 3 (Yi 18 1 15 17) 7 1,Yd 4 (Yk 19 18) 15 1,Yd 5 (oM 20 1) 0 0,Yd 6 (Yo 21 .rem k20 q64) 32 0,Yd 7 (Yo 22 .shl (kW 1) k21) 96 0,
 Yd 8 (Yo 23 .andNot k19 k22) 255 1,Yd 9 (Yi 24 1 15 17) 511 1,Yd 10 (Ys 1 24 23) 1023 1]) (Yr [oM 25 5,Yc 26 25 [k25],Ys 1 4 26] .ret)))))
theorem ok89:Y4 89 27 ir89 [.cell 4 true 1]:=Yf Tryz.func89 Tryz.ntmps89
def ir90:X4:=(Yr [Yb 2 0,Yb 3 1,Yj 4 kF] (sQ (Yr [Ya 7 0 2,Yk 8 7,Yn 9 8,Yj 10 q0] (.block 0 (.loop (Yr [Yo 11 .lss k10 k9] (sQ (.cond k11 .skip (.exit 0)) (sQ (.block 1 (Yr [oM 12 10,Yi 13 1 8 10,Yk 14 13,
 oM 5 12,oM 6 14] (Yr [oM 15 6,Yl 16 1 3,oM 17 5,Yc 18 72 [k16,k17],Yo 19 .andNot k15 k18,Yo 20 .neq k19 (kW 0)] (.cond k20 (Yr [Yj 4 kF] .ret) .skip)))) (Yg [Yo 21 .add k10 q1,oM 10 21]))))))) (Yr [Yj 4 kT] .ret)))
theorem ok90:Y4 90 22 ir90 [.tmp 4]:=Yf Tryz.func90 Tryz.ntmps90
def ir99:X4:=(Yr [Yb 2 0,Yb 3 1,Yj 4 q0] (sQ (Yr [oO 5 (.iaddrA 2 1 k2 q0),Yk 6 5,oO 7 (.iaddrA 2 1 k3 q0),Yk 8 7,Yo 9 .neq k6 k8] (.cond k9 (Yr [oO 10 (.iaddrA 2 1 k2 q0),Yk 11 10,oO 12 (.iaddrA 2 1 k3 q0),
 Yk 13 12,Yo 14 .sub k11 k13,oM 4 14] .ret) .skip)) (Yr [oO 15 (.iaddrA 2 1 k2 q1),Yk 16 15,oO 17 (.iaddrA 2 1 k3 q1),Yk 18 17,Yo 19 .sub k16 k18,oM 4 19] .ret)))
theorem ok99:Y4 99 20 ir99 [.tmp 4]:=Yf Tryz.func99 Tryz.ntmps99
def ir100:X4:=(Yr [oO 2 (.mov (.const nS))] (Yr [oM 3 0,oM 4 0,Yn 5 4,oM 6 0,Yn 7 6,oO 8 (.slc 2 k3 none (some k5) (some k7)),oM 2 8] .ret))
theorem ok100:Y4 100 9 ir100 [.tmp 2]:=Yf Tryz.func100 Tryz.ntmps100
def ir101:X4:=(Yr [oO 2 (.mov (.const nS))] (sQ (Yr [oM 6 0,Yn 7 6,Yo 8 .lss k7 q2] (.cond k8 (Yr [oM 9 0,oM 2 9] .ret) .skip)) (sQ (Yr [Yj 3 q1] (.block 0 (.loop (sQ (Yr [oM 10 3,oM 11 0,Yn 12 11,Yo 13 .lss k10 k12] (.cond k13 .skip (.exit 0))) (sQ (.block 1 (sQ (.draw [Yd 0 (oM 16 0) 0 0,
 Yd 1 (oM 17 3) 0 0,Yd 2 (Yi 18 2 16 17) 3 0,Yd 3 (Yl 19 2 18) 7 0,Yd 4 (oM 20 0) 0 0,Yd 5 (oM 21 3) 0 0,Yd 6 (Yo 22 .sub k21 q1) 32 0,Yd 7 (Yi 23 2 20 22) 112 0,Yd 8 (Yl 24 2 23) 240 0,Yd 9 (oO 25 (.bin .eql (.cells [0,
 0]) k19 k24)) 511 1]) (.cond k25 (Yr [oM 26 0,oM 27 3,oO 28 (.slc 2 k26 (some k27) none none),oM 4 28] (sQ (Yr [Yj 5 q1] (.block 2 (.loop (sQ (Yr [oM 29 5,oM 30 4,Yn 31 30,Yo 32 .lss k29 k31] (.cond k32 .skip (.exit 2))) (sQ (.block 3 (sQ (.draw [Yd 0 (oM 35 4) 0 0,
 Yd 1 (oM 36 5) 0 0,Yd 2 (Yi 37 2 35 36) 3 0,Yd 3 (Yl 38 2 37) 7 0,Yd 4 (oM 39 4) 0 0,Yd 5 (oM 40 5) 0 0,Yd 6 (Yo 41 .sub k40 q1) 32 0,Yd 7 (Yi 42 2 39 41) 112 0,Yd 8 (Yl 43 2 42) 240 0,Yd 9 (oO 44 (.bin .neq (.cells [0,
 0]) k38 k43)) 511 1]) (.cond k44 (Yr [oM 45 0,oM 46 3,oM 47 4,oM 48 5,Yi 49 2 47 48,Yl 50 2 49,Yi 51 2 45 46,Ys 2 51 50] (Yg [oM 52 3,Yo 53 .add k52 q1,oM 3 53])) .skip))) (Yg [oM 33 5,Yo 34 .add k33 q1,
 oM 5 34])))))) (Yr [oM 54 0,oM 55 3,oO 56 (.slc 2 k54 (some k55) none none),⟨none,.clear [z0,z0] k56,none⟩] (Yr [oM 57 0,oM 58 3,oO 59 (.slc 2 k57 none (some k58) none),oM 2 59] .ret)))) .skip))) (Yg [oM 14 3,
 Yo 15 .add k14 q1,oM 3 15])))))) (Yr [oM 60 0,oM 2 60] .ret))))
theorem ok101:Y4 101 61 ir101 [.tmp 2]:=Yf Tryz.func101 Tryz.ntmps101
def ir102:X4:=(Yr [Yj 2 kF] (Yr [oM 9 0,oO 10 (.nilck k9),Ya 11 0 10,Yk 12 11,oO 13 (.mslice [z0] 8 k12 k12),oM 3 13] (sQ (Yr [oM 14 0,oO 15 (.nilck k14),Ya 16 1 15,Yk 17 16,Yn 18 17,Yj 19 q0] (.block 0 (.loop (Yr [Yo 20 .lss k19 k18] (sQ (.cond k20 .skip (.exit 0)) (sQ (.block 1 (Yr [Yi 21 2 17 19,
 Yl 22 2 21,Yz 5 [z0,z0],Ys 2 5 22] (Yg [oM 23 3,oO 24 (.iaddrA 2 1 k5 q1),Yk 25 24,Yi 26 1 23 25,Yk 27 26,Yo 28 .add k27 q1,Yi 29 1 23 25,Ys 1 29 28]))) (Yg [Yo 30 .add k19 q1,oM 19 30]))))))) (sQ (.block 2 (.loop (sQ (sQ (.draw [Yd 0 (oM 31 0) 0 0,
 Yd 1 (oO 32 (.nilck k31)) 1 0,Yd 2 (Ya 33 4 32) 3 0,Yd 3 (Yk 34 33) 7 0,Yd 4 (Yn 35 34) 15 0,Yd 5 (oM 36 0) 0 0,Yd 6 (oO 37 (.nilck k36)) 32 0,Yd 7 (Ya 38 0 37) 96 0,Yd 8 (Yk 39 38) 224 0,Yd 9 (Yo 40 .lss k35 k39) 511 1]) (.cond k40 .skip (.exit 2))) (.block 3 (Yr [oM 41 3,
 Yc 42 146 [k41,q0],oM 6 42] (sQ (Yr [oM 43 6,Yo 44 .lss k43 q0] (.cond k44 (Yr [Yj 2 kF] .ret) .skip)) (Yr [oM 45 3,oM 46 6,Yi 47 1 45 46,⟨none,.store 1 k47 (.const (.int .i64 (-1))),none⟩] (Yr [oM 48 0,
 oM 49 0,oO 50 (.nilck k49),Ya 51 4 50,Yk 52 51,oM 53 6,oO 54 (.bslice [z0] 1 [(0,k53)]),oO 55 (.append [z0] 8 k52 k54),oO 56 (.nilck k48),Ya 57 4 56,Ys 1 57 55] (Yr [oM 58 0,oO 59 (.nilck k58),Ya 60 1 59,
 Yk 61 60,Yn 62 61,Yj 63 q0] (.block 4 (.loop (Yr [Yo 64 .lss k63 k62] (sQ (.cond k64 .skip (.exit 4)) (sQ (.block 5 (Yr [Yi 65 2 61 63,Yl 66 2 65,Yz 8 [z0,z0],Ys 2 8 66] (Yr [oO 67 (.iaddrA 2 1 k8 q0),
 Yk 68 67,oM 69 6,Yo 70 .eql k68 k69] (.cond k70 (Yg [oM 71 3,oO 72 (.iaddrA 2 1 k8 q1),Yk 73 72,Yi 74 1 71 73,Yk 75 74,Yo 76 .sub k75 q1,Yi 77 1 71 73,Ys 1 77 76]) .skip)))) (Yg [Yo 78 .add k63 q1,oM 63 78]))))))))))))))) (Yr [Yj 2 kT] .ret)))))
theorem ok102:Y4 102 79 ir102 [.tmp 2]:=Yf Tryz.func102 Tryz.ntmps102
def ir103:X4:=(Yr [Yb 1 0] (sQ (.draw [Yd 0 (Yk 10 1) 0 0,Yd 1 (Yk 11 1) 0 0,Yd 2 (Yk 12 1) 0 0,Yd 3 (oO 13 (.nilck k12)) 4 0,Yd 4 (Ya 14 0 13) 12 0,Yd 5 (Yk 15 14) 28 0,Yd 6 (oO 16 (.mslice [nS] 24 k15 k15)) 60 0,
 Yd 7 (Yk 17 1) 0 0,Yd 8 (oO 18 (.nilck k17)) 128 0,Yd 9 (Ya 19 0 18) 384 0,Yd 10 (Yk 20 19) 896 0,Yd 11 (oO 21 (.mslice [nS] 24 k20 k20)) 1920 0,Yd 12 (oO 22 (.nilck k10)) 2045 0,Yd 13 (Ya 23 2 22) 6141 0,
 Yd 14 (Ys 1 23 16) 14333 28666,Yd 15 (oO 24 (.nilck k11)) 32767 1,Yd 16 (Ya 25 3 24) 65535 1,Yd 17 (Ys 1 25 21) 131071 1]) (Yr [Yk 26 1,oO 27 (.nilck k26),Ya 28 0 27,Yk 29 28,oO 30 (.mslice [nS] 24 k29 k29),
 oM 2 30] (sQ (Yr [Yk 31 1,oO 32 (.nilck k31),Ya 33 1 32,Yk 34 33,Yn 35 34,Yj 36 q0] (.block 0 (.loop (Yr [Yo 37 .lss k36 k35] (sQ (.cond k37 .skip (.exit 0)) (sQ (.block 1 (Yr [Yi 38 2 34 36,Yl 39 2 38,
 Yz 4 [z0,z0],Ys 2 4 39] (.draw [Yd 0 (oM 40 2) 0 0,Yd 1 (oO 41 (.iaddrA 2 1 k4 q1)) 0 0,Yd 2 (Yk 42 41) 2 0,Yd 3 (oM 43 2) 0 0,Yd 4 (oO 44 (.iaddrA 2 1 k4 q1)) 0 0,Yd 5 (Yk 45 44) 16 0,Yd 6 (Yi 46 1 43 45) 56 0,
 Yd 7 (Yk 47 46) 120 0,Yd 8 (oO 48 (.iaddrA 2 1 k4 q0)) 0 0,Yd 9 (Yk 49 48) 256 0,Yd 10 (oO 50 (.bslice [z0] 1 [(0,k49)])) 768 0,Yd 11 (oO 51 (.append [z0] 8 k47 k50)) 2040 4080,Yd 12 (Yi 52 1 40 42) 4095 1,
 Yd 13 (Ys 1 52 51) 8191 1]))) (Yg [Yo 53 .add k36 q1,oM 36 53]))))))) (Yr [Yk 54 1,oO 55 (.nilck k54),Ya 56 4 55,Yk 57 56,Yn 58 57,Yj 59 q0] (.block 2 (.loop (Yr [Yo 60 .lss k59 k58] (sQ (.cond k60 .skip (.exit 2)) (sQ (.block 3 (Yr [Yi 61 1 57 59,
 Yk 62 61,Yz 6 [z0],Ys 1 6 62] (sQ (Yr [oM 63 2,Yk 64 6,Yi 65 1 63 64,Yk 66 65,Yn 67 66,Yj 68 q0] (.block 4 (.loop (Yr [Yo 69 .lss k68 k67] (sQ (.cond k69 .skip (.exit 4)) (sQ (.block 5 (Yr [Yi 70 1 66 68,
 Yk 71 70,oM 8 71] (.draw [Yd 0 (Yk 72 1) 0 0,Yd 1 (oO 73 (.nilck k72)) 1 0,Yd 2 (Ya 74 2 73) 3 0,Yd 3 (Yk 75 74) 7 0,Yd 4 (Yk 76 6) 0 0,Yd 5 (Yk 77 1) 0 0,Yd 6 (oO 78 (.nilck k77)) 32 0,Yd 7 (Ya 79 2 78) 96 0,
 Yd 8 (Yk 80 79) 224 0,Yd 9 (Yk 81 6) 0 0,Yd 10 (Yi 82 1 80 81) 992 0,Yd 11 (Yl 83 1 82) 2016 0,Yd 12 (Yk 84 1) 0 0,Yd 13 (oO 85 (.nilck k84)) 4096 0,Yd 14 (Ya 86 2 85) 12288 0,Yd 15 (Yk 87 86) 28672 0,
 Yd 16 (oM 88 8) 0 0,Yd 17 (Yi 89 1 87 88) 126976 0,Yd 18 (Yl 90 1 89) 258048 0,Yd 19 (Yc 91 70 [k83,k90]) 524256 0,Yd 20 (oM 92 8) 0 0,Yd 21 (Yc 93 104 [k91,k92]) 2097120 0,Yd 22 (Yi 94 1 75 76) 4194303 1,
 Yd 23 (Ys 1 94 93) 8388607 1]))) (Yg [Yo 95 .add k68 q1,oM 68 95]))))))) (sQ (.draw [Yd 0 (Yk 96 1) 0 0,Yd 1 (oO 97 (.nilck k96)) 1 0,Yd 2 (Ya 98 2 97) 3 0,Yd 3 (Yk 99 98) 7 0,Yd 4 (Yk 100 6) 0 0,Yd 5 (Yi 101 1 99 100) 31 1,
 Yd 6 (Yl 102 1 101) 63 1,Yd 7 (Yc 103 73 [X6d]) 127 1]) (.block 6 (.range X6t [104] [(9,X6M)] (.block 7 (.draw [Yd 0 (Yk 105 1) 0 0,Yd 1 (oO 106 (.nilck X8j)) 1 0,Yd 2 (Ya 107 3 106) 3 0,Yd 3 (Yk 108 107) 7 0,
 Yd 4 (oM 109 9) 0 0,Yd 5 (Yk 110 1) 0 0,Yd 6 (oO 111 (.nilck X6E)) 32 0,Yd 7 (Ya 112 3 111) 96 0,Yd 8 (Yk 113 112) 224 0,Yd 9 (oM 114 9) 0 0,Yd 10 (Yi 115 1 113 114) 992 0,Yd 11 (Yl 116 1 115) 2016 0,
 Yd 12 (Yk 117 6) 0 0,Yd 13 (Yc 118 104 [X74,X7x]) 8160 0,Yd 14 (Yi 119 1 108 109) 16383 1,Yd 15 (Ys 1 119 118) 32767 1])))))))) (Yg [Yo 120 .add k59 q1,oM 59 120])))))))))))
theorem ok103:Y4 103 121 ir103 []:=Yf Tryz.func103 Tryz.ntmps103
def ir104:X4:=(Yr [Yb 2 0,Yz 4 [nS]] (sQ (Yr [oM 6 1,Yo 7 .lss k6 q0,oM 8 7,oF 8 9 (.mov k1),oF 8 10 (.bin .gtr .num k9 (kI 4095)),Yq 11 8 10,oM 12 11,oF 12 13 (.load true 1 k2),oF 12 14 (.mov k1),oF 12 15 (kC 29 [k13,
 k14]),Yq 16 12 15] (.cond k16 (Yr [Yl 17 1 2,Ys 1 4 17] .ret) .skip)) (Yr [Ya 18 0 2,Yk 19 18,Yn 20 19,oM 21 1,Yo 22 .quo k21 q64,Yo 23 .add k22 q1,oO 24 (.mx k20 k23),oO 25 (.mslice [(.int .u64 0)] 8 k24 k24),
 oM 5 25] (Yr [oM 26 5,Ya 27 0 2,Yk 28 27,oO 29 (.copy 1 k26 k28)] (sQ (.draw [Yd 0 (oM 30 5) 0 1,Yd 1 (oM 31 1) 0 1,Yd 2 (Yo 32 .quo k31 q64) 2 1,Yd 3 (Yi 33 1 30 32) 7 1,Yd 4 (Yk 34 33) 15 1,Yd 5 (oM 35 1) 0 0,
 Yd 6 (Yo 36 .rem k35 q64) 32 0,Yd 7 (Yo 37 .shl (kW 1) k36) 96 0,Yd 8 (Yo 38 .or k34 k37) 255 1,Yd 9 (Yi 39 1 30 32) 511 1,Yd 10 (Ys 1 39 38) 1023 1]) (Yr [oM 40 5,oO 41 (.build [nS] [(0,1,k40)]),Ys 1 4 41] .ret))))))
theorem ok104:Y4 104 42 ir104 [.cell 4 true 1]:=Yf Tryz.func104 Tryz.ntmps104
def ir105:X4:=(Yr [Yb 2 0,Yb 3 1,Yj 4 kF] (Yr [Ya 5 0 2,Yl 6 1 5,Yl 7 1 3,Yc 8 90 [k6,k7],oM 9 8,oT 9 10 (.faddr 1 k2),oT 9 11 (.load true 1 k10),oT 9 12 (.load true 1 k3),oT 9 13 (kC 31 [k11,k12]),
 oT 9 14 (.una .not k13),Ym 15 9 14,oM 4 15] .ret))
theorem ok105:Y4 105 16 ir105 [.tmp 4]:=Yf Tryz.func105 Tryz.ntmps105
def ir106:X4:=(Yr [Yb 2 0,Yj 3 kF] (Yr [Yl 4 2 2,Yl 5 1 1,Yc 6 105 [k4,k5],oM 3 6] .ret))
theorem ok106:Y4 106 7 ir106 [.tmp 3]:=Yf Tryz.func106 Tryz.ntmps106
def ir107:X4:=(Yr [Yz 4 [nS]] (sQ (Yr [oM 5 0,oO 6 (.bin .eql .ptr k5 (.const nP)),oM 7 6,oF 7 8 (.mov k1),oF 7 9 (kC 113 [k8]),oF 7 10 (.una .not k9),Yq 11 7 10] (.cond k11 (Yr [oO 12 (.build [nS] []),
 Ys 1 4 12] .ret) .skip)) (Yr [oM 13 0,oO 14 (.nilck k13),Ya 15 0 14,Yk 16 15,oM 17 1,Yc 18 147 [k16,k17],oM 19 1,Yc 20 104 [k18,k19],Ys 1 4 20] .ret)))
theorem ok107:Y4 107 21 ir107 [.cell 4 true 1]:=Yf Tryz.func107 Tryz.ntmps107
def ir108:X4:=(Yr [Yj 2 kF] (Yr [oM 3 0,Yo 4 .geq k3 q1,oM 5 4,oT 5 6 (.mov k0),oT 5 7 (.bin .leq .num k6 q63),Ym 8 5 7,oM 2 8] .ret))
theorem ok108:Y4 108 9 ir108 [.tmp 2]:=Yf Tryz.func108 Tryz.ntmps108
def ir109:X4:=(Yr [Yj 6 kF] (sQ (Yr [oM 9 0,Yn 10 9,Yj 11 q0] (.block 0 (.loop (Yr [Yo 12 .lss k11 k10] (sQ (.cond k12 .skip (.exit 0)) (sQ (.block 1 (Yr [Yi 13 2 9 11,Yl 14 2 13,Yz 8 [z0,z0],Ys 2 8 14] (Yr [oO 15 (.iaddrA 2 1 k8 q0),
 Yk 16 15,oM 17 1,Yo 18 .eql k16 k17,oM 19 18,oT 19 20 (.iaddrA 2 1 k8 q1),oT 19 21 (.load false 1 k20),oT 19 22 (.mov k2),oT 19 23 (.bin .eql .num k21 k22),Ym 24 19 23] (.cond k24 (Yr [Yj 6 kT] .ret) .skip)))) (Yg [Yo 25 .add k11 q1,
 oM 11 25]))))))) (Yr [Yj 6 kF] .ret)))
theorem ok109:Y4 109 26 ir109 [.tmp 6]:=Yf Tryz.func109 Tryz.ntmps109
def ir110:X4:=(Yr [Yj 6 kF] (Yr [oM 7 2,Yc 8 108 [k7],oM 9 8,oT 9 10 (.mov k0),oT 9 11 (.mov k1),oT 9 12 (kC 111 [k10,k11]),oT 9 13 (.mov k2),oT 9 14 (.bin .shr .num k12 k13),oT 9 15 (.bin .rem .num k14 (kW 2)),
 oT 9 16 (.bin .eql .num k15 (kW 1)),Ym 17 9 16,oM 6 17] .ret))
theorem ok110:Y4 110 18 ir110 [.tmp 6]:=Yf Tryz.func110 Tryz.ntmps110
def ir111:X4:=(Yr [Yj 4 (kW 0)] (sQ (Yr [oM 9 1,Yc 10 108 [k9],Yh 11 10] (.cond k11 (Yr [Yj 4 (kW 0)] .ret) .skip)) (Yr [oM 12 1,Yo 13 .shl (kW 1) k12,oM 5 13] (.block 0 (.loop (.block 1 (Yr [oM 14 5,
 oM 6 14] (sQ (Yr [oM 15 0,Yn 16 15,Yj 17 q0] (.block 2 (.loop (Yr [Yo 18 .lss k17 k16] (sQ (.cond k18 .skip (.exit 2)) (sQ (.block 3 (Yr [Yi 19 2 15 17,Yl 20 2 19,Yz 8 [z0,z0],Ys 2 8 20] (Yr [oM 21 5,oO 22 (.iaddrA 2 1 k8 q0),
 Yk 23 22,Yo 24 .shr k21 k23,Yo 25 .rem k24 (kW 2),Yo 26 .eql k25 (kW 1)] (.cond k26 (Yg [oM 27 6,oO 28 (.iaddrA 2 1 k8 q1),Yk 29 28,Yo 30 .shl (kW 1) k29,Yo 31 .or k27 k30,oM 6 31]) .skip)))) (Yg [Yo 32 .add k17 q1,
 oM 17 32]))))))) (sQ (Yr [oM 33 6,oM 34 5,Yo 35 .eql k33 k34] (.cond k35 (Yr [oM 36 5,oM 4 36] .ret) .skip)) (Yg [oM 37 6,oM 5 37]))))))))))
theorem ok111:Y4 111 38 ir111 [.tmp 4]:=Yf Tryz.func111 Tryz.ntmps111
def ir112:X4:=(Yr [oO 2 (.mov (.const nS))] (Yr [oO 3 (.mov (.const nS))] (sQ (Yr [Yj 4 q0] (.block 0 (.loop (sQ (Yr [oM 5 4,Yo 6 .lss k5 q64] (.cond k6 .skip (.exit 0))) (sQ (.block 1 (Yr [oM 9 0,oM 10 4,
 Yo 11 .shr k9 k10,Yo 12 .rem k11 (kW 2),Yo 13 .eql k12 (kW 1)] (.cond k13 (Yg [oM 14 3,oM 15 4,oO 16 (.bslice [z0] 1 [(0,k15)]),oO 17 (.append [z0] 8 k14 k16),oM 3 17]) .skip))) (Yg [oM 7 4,Yo 8 .add k7 q1,
 oM 4 8])))))) (Yr [oM 18 3,oM 2 18] .ret))))
theorem ok112:Y4 112 19 ir112 [.tmp 2]:=Yf Tryz.func112 Tryz.ntmps112
def ir113:X4:=(Yr [Yj 2 kF] (Yr [oM 3 0,Yo 4 .geq k3 q1,oM 5 4,oT 5 6 (.mov k0),oT 5 7 (.bin .leq .num k6 q63),Ym 8 5 7,oM 2 8] .ret))
theorem ok113:Y4 113 9 ir113 [.tmp 2]:=Yf Tryz.func113 Tryz.ntmps113
def ir114:X4:=(Yr [oO 6 (.mov (.const nP)),Yj 7 q0] (sQ (Yr [oM 8 0,oO 9 (.bin .eql .ptr k8 (.const nP))] (.cond k9 (Yr [oO 6 (.mov (.const nP)),Yj 7 q1] .ret) .skip)) (sQ (Yr [oM 10 0,oM 11 1,Yc 12 148 [k10,
 k11],Yh 13 12,oM 14 13,oF 14 15 (.mov k0),oF 14 16 (.mov k2),oF 14 17 (kC 148 [k15,k16]),oF 14 18 (.una .not k17),Yq 19 14 18] (.cond k19 (Yr [oO 6 (.mov (.const nP)),Yj 7 q2] .ret) .skip)) (sQ (Yr [oM 20 0,
 oO 21 (.nilck k20),Ya 22 1 21,Yk 23 22,oM 24 1,oM 25 2,oO 26 (.build [z0,z0] [(0,1,k24),(1,1,k25)]),Yc 27 149 [k23,k26]] (.cond k27 (Yr [oO 6 (.mov (.const nP)),Yj 7 q5] .ret) .skip)) (sQ (.draw [Yd 0 (oM 28 0) 0 0,
 Yd 1 (oO 29 (.nilck k28)) 1 0,Yd 2 (Ya 30 0 29) 3 0,Yd 3 (Yk 31 30) 7 0,Yd 4 (oM 32 0) 0 0,Yd 5 (Yc 33 150 [k32]) 16 0,Yd 6 (oM 34 1) 0 0,Yd 7 (oM 35 2) 0 0,Yd 8 (oO 36 (.build [z0,z0] [(0,1,k34),(1,1,
 k35)])) 192 0,Yd 9 (oO 37 (.bslice [z0,z0] 1 [(0,k36)])) 448 0,Yd 10 (oO 38 (.append [z0,z0] 16 k33 k37)) 1008 2016,Yd 11 (Yc 39 44 [k31,k38]) 2047 1,Yd 12 (Yx 40 39 0) 4095 1,Yd 13 (Yx 41 39 1) 4095 1,
 Yd 14 (oM 6 40) 16383 1,Yd 15 (oM 7 41) 32767 1]) .ret)))))
theorem ok114:Y4 114 42 ir114 [.tmp 6,.tmp 7]:=Yf Tryz.func114 Tryz.ntmps114
def ir115:X4:=(Yr [Yb 1 0,Yz 2 [nS],oO 3 (.mov (.const nS))] (Yr [Ya 8 2 1,Yl 9 1 8,Yz 4 [nS],Ys 1 4 9] (Yr [oO 5 (.mov (.const nS))] (.block 0 (.loop (.block 1 (Yr [Ya 10 1 1,Yk 11 10,Yl 12 1 4,Yc 13 47 [k11,
 k12],Yz 6 [nS],Ys 1 6 13] (Yr [Ya 14 3 1,Yk 15 14,oO 16 (.mkfn 152 [k4,k6]),Yc 17 151 [k15,k16],oM 7 17] (sQ (Yr [oM 18 7,Yo 19 .lss k18 q0] (.cond k19 (Yr [Yl 20 1 4,oM 21 5,Ys 1 2 20,oM 3 21] .ret) .skip)) (.draw [Yd 0 (Yl 22 1 4) 0 0,
 Yd 1 (Ya 23 3 1) 0 0,Yd 2 (Yk 24 23) 2 0,Yd 3 (oM 25 7) 0 0,Yd 4 (Yi 26 5 24 25) 14 0,Yd 5 (Ya 27 3 26) 30 0,Yd 6 (Yk 28 27) 62 0,Yd 7 (Yc 29 104 [k22,k28]) 127 1,Yd 8 (oM 30 5) 0 0,Yd 9 (oM 31 7) 0 0,
 Yd 10 (oO 32 (.bslice [z0] 1 [(0,k31)])) 512 0,Yd 11 (oO 33 (.append [z0] 8 k30 k32)) 2047 1,Yd 12 (Ys 1 4 29) 4095 1,Yd 13 (oM 5 33) 8191 1]))))))))))
theorem ok115:Y4 115 34 ir115 [.cell 2 true 1,.tmp 3]:=Yf Tryz.func115 Tryz.ntmps115
def ir116:X4:=(Yr [Yb 2 0,Yb 3 1,Yz 4 [nS]] (Yr [Ya 7 0 2,Yk 8 7,Yn 9 8,oO 10 (.mslice [(.int .u64 0)] 8 k9 k9),oM 5 10] (sQ (Yr [oM 11 5,Yn 12 11,Yj 13 q0] (.block 0 (.loop (Yr [Yo 14 .lss k13 k12] (sQ (.cond k14 .skip (.exit 0)) (sQ (.block 1 (Yr [oM 15 13,
 oM 6 15] (.draw [Yd 0 (oM 16 5) 0 0,Yd 1 (oM 17 6) 0 0,Yd 2 (Ya 18 0 2) 0 0,Yd 3 (Yk 19 18) 4 0,Yd 4 (oM 20 6) 0 0,Yd 5 (Yi 21 1 19 20) 28 0,Yd 6 (Yk 22 21) 60 0,Yd 7 (Yl 23 1 3) 0 0,Yd 8 (oM 24 6) 0 0,
 Yd 9 (Yc 25 72 [k23,k24]) 384 0,Yd 10 (Yo 26 .andNot k22 k25) 1020 1,Yd 11 (Yi 27 1 16 17) 2047 1,Yd 12 (Ys 1 27 26) 4095 1]))) (Yg [Yo 28 .add k13 q1,oM 13 28]))))))) (Yr [oM 29 5,Yc 30 25 [k29],Ys 1 4 30] .ret))))
theorem ok116:Y4 116 31 ir116 [.cell 4 true 1]:=Yf Tryz.func116 Tryz.ntmps116
def ir117:X4:=(Yr [Yb 1 0,oO 2 (.mov (.const nP)),Yj 3 q0] (Yr [Yl 17 6 1,Yc 18 153 [k17],oM 16 18,Yx 19 16 0,Yx 20 16 1,oM 4 19,oM 5 20] (sQ (Yr [oM 21 5,Yo 22 .neq k21 q0] (.cond k22 (Yr [oM 23 5,
 oO 2 (.mov (.const nP)),oM 3 23] .ret) .skip)) (Yr [Yl 24 6 1,oM 25 4,oO 26 (.build [z0,nP,nS,nS,nS,nS,nS,nS,nS] [(0,6,k24),(6,1,k25)]),Yb 27 26,oM 6 27] (sQ (Yr [Ya 28 3 1,Yk 29 28,Yn 30 29,Yj 31 q0] (.block 0 (.loop (Yr [Yo 32 .lss k31 k30] (sQ (.cond k32 .skip (.exit 0)) (sQ (.block 1 (Yr [Yi 33 5 29 31,
 Yl 34 5 33,oO 8 (.alloc [(.bool false),nS,nS,z0,z0]),Ys 5 8 34] (Yr [Yl 36 6 1,Ya 37 1 8,Yl 38 2 37,Yc 39 154 [k36,k38],oM 35 39,Yx 40 35 0,Yx 41 35 1,oM 9 40,oM 10 41] (sQ (Yr [oM 42 10,Yo 43 .neq k42 q0] (.cond k43 (Yr [oM 44 10,
 oO 2 (.mov (.const nP)),oM 3 44] .ret) .skip)) (Yr [oO 45 (.bslice [nS,nS] 0 []),oM 46 4,oO 47 (.append [nS,nS] 48 k45 k46),oM 11 47] (sQ (Yr [oM 48 4,Yn 49 48,Yj 50 q0] (.block 2 (.loop (Yr [Yo 51 .lss k50 k49] (sQ (.cond k51 .skip (.exit 2)) (sQ (.block 3 (Yr [Yi 52 2 48 50,
 Yl 53 2 52,Yz 13 [nS,nS],Ys 2 13 53] (Yr [Yl 55 2 13,Ya 56 3 8,Yk 57 56,Ya 58 0 8,Yk 59 58,Yc 60 155 [k55,k57,k59],oM 54 60,Yx 61 54 0,Yx 62 54 1,Yz 14 [nS,nS],Ys 2 14 61,oM 15 62] (Yr [oM 63 15] (.cond k63 (Yg [oM 64 11,
 Yl 65 2 14,oO 66 (.bslice [nS,nS] 1 [(0,k65)]),oO 67 (.append [nS,nS] 48 k64 k66),oM 11 67]) .skip))))) (Yg [Yo 68 .add k50 q1,oM 50 68]))))))) (.draw [Yd 0 (oM 69 6) 0 0,Yd 1 (oM 70 6) 0 0,Yd 2 (oM 71 6) 0 0,
 Yd 3 (oO 72 (.nilck k71)) 4 0,Yd 4 (Ya 73 7 72) 12 0,Yd 5 (Yk 74 73) 28 0,Yd 6 (oM 75 9) 0 0,Yd 7 (oO 76 (.bslice [nS] 1 [(0,k75)])) 64 0,Yd 8 (oO 77 (.append [nS] 24 k74 k76)) 252 504,Yd 9 (oM 78 6) 0 0,
 Yd 10 (oO 79 (.nilck k78)) 512 0,Yd 11 (Ya 80 8 79) 1536 0,Yd 12 (Yk 81 80) 3584 0,Yd 13 (oM 82 11) 0 0,Yd 14 (oO 83 (.bslice [nS] 1 [(0,k82)])) 8192 0,Yd 15 (oO 84 (.append [nS] 24 k81 k83)) 32764 1,Yd 16 (oO 85 (.nilck k69)) 65533 1,
 Yd 17 (Ya 86 7 85) 131069 1,Yd 18 (Ys 1 86 77) 262141 1,Yd 19 (oO 87 (.nilck k70)) 524287 1,Yd 20 (Ya 88 8 87) 1048575 1,Yd 21 (Ys 1 88 84) 2097151 1]))))))) (Yg [Yo 89 .add k31 q1,oM 31 89]))))))) (Yr [oM 90 6,
 oM 2 90,Yj 3 q0] .ret))))))
theorem ok117:Y4 117 91 ir117 [.tmp 2,.tmp 3]:=Yf Tryz.func117 Tryz.ntmps117
def ir118:X4:=(Yr [Yb 1 0,oO 2 (.mov (.const nS)),Yj 3 q0] (Yr [Yl 8 6 1,Yc 9 153 [k8],oM 7 9,Yx 10 7 0,Yx 11 7 1,oM 4 10,oM 5 11] (sQ (Yr [oM 12 5,Yo 13 .neq k12 q0] (.cond k13 (Yr [oM 14 5,oO 2 (.mov (.const nS)),
 oM 3 14] .ret) .skip)) (Yr [Yl 16 6 1,Ya 17 5 1,Yk 18 17,Yc 19 156 [k16,k18],oM 15 19,Yx 20 15 0,Yx 21 15 1,oM 6 20,oM 5 21] (sQ (Yr [oM 22 5,Yo 23 .neq k22 q0] (.cond k23 (Yr [oM 24 5,oO 2 (.mov (.const nS)),
 oM 3 24] .ret) .skip)) (Yr [oM 26 6,oM 27 4,Yc 28 157 [k26,k27],oM 25 28,Yx 29 25 0,Yx 30 25 1,oM 6 29,oM 5 30] (sQ (Yr [oM 31 5,Yo 32 .neq k31 q0] (.cond k32 (Yr [oM 33 5,oO 2 (.mov (.const nS)),oM 3 33] .ret) .skip)) (Yr [oM 34 6,
 Yc 35 158 [k34],Yx 36 35 0,Yx 37 35 1,oM 2 36,oM 3 37] .ret))))))))
theorem ok118:Y4 118 38 ir118 [.tmp 2,.tmp 3]:=Yf Tryz.func118 Tryz.ntmps118
def ir119:X4:=(Yr [Yb 4 1,Yb 5 2,Yj 6 q0] (sQ (sQ (.draw [Yd 0 (Yl 7 2 4) 0 0,Yd 1 (oM 8 0) 0 0,Yd 2 (oO 9 (.nilck k8)) 2 0,Yd 3 (Ya 10 0 9) 6 0,Yd 4 (Yk 11 10) 14 0,Yd 5 (Yc 12 159 [k7,k11]) 31 1]) (.cond k12 (Yr [Yj 6 q0] .ret) .skip)) (sQ (.draw [Yd 0 (oM 13 0) 0 0,
 Yd 1 (oM 14 0) 0 0,Yd 2 (oM 15 0) 0 0,Yd 3 (oO 16 (.nilck k15)) 4 0,Yd 4 (Ya 17 0 16) 12 0,Yd 5 (Yk 18 17) 28 0,Yd 6 (Yl 19 2 4) 0 0,Yd 7 (oO 20 (.bslice [nS,nS] 1 [(0,k19)])) 64 0,Yd 8 (oO 21 (.append [nS,
 nS] 48 k18 k20)) 252 504,Yd 9 (oM 22 0) 0 0,Yd 10 (oO 23 (.nilck k22)) 512 0,Yd 11 (Ya 24 1 23) 1536 0,Yd 12 (Yk 25 24) 3584 0,Yd 13 (Yl 26 2 5) 0 0,Yd 14 (oO 27 (.bslice [z0,z0] 1 [(0,k26)])) 8192 0,Yd 15 (oO 28 (.append [z0,
 z0] 16 k25 k27)) 32764 1,Yd 16 (oO 29 (.nilck k13)) 65533 1,Yd 17 (Ya 30 0 29) 131069 1,Yd 18 (Ys 1 30 21) 262141 1,Yd 19 (oO 31 (.nilck k14)) 524287 1,Yd 20 (Ya 32 1 31) 1048575 1,Yd 21 (Ys 1 32 28) 2097151 1]) (sQ (sQ (.draw [Yd 0 (oM 33 0) 0 0,
 Yd 1 (oO 34 (.nilck k33)) 1 0,Yd 2 (Ya 35 0 34) 3 0,Yd 3 (Yk 36 35) 7 0,Yd 4 (Yn 37 36) 15 0,Yd 5 (oM 38 0) 0 0,Yd 6 (oO 39 (.nilck k38)) 32 0,Yd 7 (Ya 40 2 39) 96 0,Yd 8 (Yk 41 40) 224 0,Yd 9 (Yo 42 .gtr k37 k41) 511 1,
 Yd 10 (oM 43 42) 1023 1,Yd 11 (oF 43 44 (.mov k0)) 2047 1,Yd 12 (oF 43 45 (.nilck k44)) 4095 1,Yd 13 (oF 43 46 (.faddr 0 k45)) 8191 1,Yd 14 (oF 43 47 (.load false 1 k46)) 16383 1,Yd 15 (oF 43 48 (.len k47)) 32767 1,
 Yd 16 (oF 43 49 (.bin .gtr .num k48 (kI 2000))) 65535 1,Yd 17 (Yq 50 43 49) 131071 1]) (.cond k50 (Yr [Yj 6 q3] .ret) .skip)) (Yr [Yj 6 q0] .ret)))))
theorem ok119:Y4 119 51 ir119 [.tmp 6]:=Yf Tryz.func119 Tryz.ntmps119
def ir120:X4:=(Yr [oO 4 (.mov (.const nS))] (Yr [oO 5 (.mov (.const nS))] (sQ (.block 0 (.loop (sQ (Yr [oM 6 0,oO 7 (.nilck k6),Ya 8 1 7,Yk 9 8,oM 10 1,Yi 11 2 9 10,Ya 12 0 11,Yk 13 12,Yo 14 .geq k13 q0] (.cond k14 .skip (.exit 0))) (.block 1 (Yr [oM 15 5,
 oM 16 0,oO 17 (.nilck k16),Ya 18 1 17,Yk 19 18,oM 20 1,Yi 21 2 19 20,Ya 22 0 21,Yk 23 22,oO 24 (.bslice [z0] 1 [(0,k23)]),oO 25 (.append [z0] 8 k15 k24),oM 5 25] (Yg [oM 26 0,oO 27 (.nilck k26),Ya 28 1 27,
 Yk 29 28,oM 30 1,Yi 31 2 29 30,Ya 32 1 31,Yk 33 32,oM 1 33])))))) (Yr [oM 34 5,oM 4 34] .ret))))
theorem ok120:Y4 120 35 ir120 [.tmp 4]:=Yf Tryz.func120 Tryz.ntmps120
def ir121:X4:=(Yr [Yj 6 q0] (sQ (Yr [oM 13 0,oO 14 (.nilck k13),Ya 15 0 14,Ya 16 3 15,Yk 17 16,Yn 18 17,Yj 19 q0] (.block 0 (.loop (Yr [Yo 20 .lss k19 k18] (sQ (.cond k20 .skip (.exit 0)) (sQ (.block 1 (Yr [oM 21 19,
 oM 7 21] (Yr [oM 23 0,oM 24 1,oO 25 (.nilck k24),Ya 26 0 25,Yk 27 26,oM 28 2,Yi 29 2 27 28,Yl 30 2 29,oM 31 7,Yc 32 160 [k23,k30,k31],oM 22 32,Yx 33 22 0,Yx 34 22 1,oM 8 33,oM 9 34] (sQ (Yr [oM 35 9,Yo 36 .neq k35 q0] (.cond k36 (Yr [oM 37 9,
 oM 6 37] .ret) .skip)) (Yr [oM 38 8,Yn 39 38,Yj 40 q0] (.block 2 (.loop (Yr [Yo 41 .lss k40 k39] (sQ (.cond k41 .skip (.exit 2)) (sQ (.block 3 (Yr [Yi 42 2 38 40,Yl 43 2 42,Yz 11 [nS,nS],Ys 2 11 43] (Yr [oM 44 1,
 Yl 45 2 11,oM 46 7,oM 47 2,oO 48 (.build [z0,z0] [(0,1,k46),(1,1,k47)]),Yc 49 119 [k44,k45,k48],oM 12 49] (Yr [oM 50 12,Yo 51 .neq k50 q0] (.cond k51 (Yr [oM 52 12,oM 6 52] .ret) .skip))))) (Yg [Yo 53 .add k40 q1,
 oM 40 53]))))))))))) (Yg [Yo 54 .add k19 q1,oM 19 54]))))))) (Yr [Yj 6 q0] .ret)))
theorem ok121:Y4 121 55 ir121 [.tmp 6]:=Yf Tryz.func121 Tryz.ntmps121
def ir124:X4:=(Yr [Yb 2 0,oO 4 (.mov (.const nS)),Yj 5 q0] (Yr [oO 6 (.mov (.const nS))] (sQ (Yr [Yl 12 2 2,Yc 13 67 [k12],Yh 14 13] (.cond k14 (Yg [oM 15 6,Yl 16 2 2,oO 17 (.bslice [nS,nS] 1 [(0,k16)]),
 oO 18 (.append [nS,nS] 48 k15 k17),oM 6 18]) .skip)) (sQ (Yr [oM 19 1,Yn 20 19,Yj 21 q0] (.block 0 (.loop (Yr [Yo 22 .lss k21 k20] (sQ (.cond k22 .skip (.exit 0)) (sQ (.block 1 (Yr [Yi 23 2 19 21,Yl 24 2 23,
 Yz 8 [nS,nS],Ys 2 8 24] (Yr [oO 9 (.mov (.const nS))] (sQ (Yr [oM 25 6,Yn 26 25,Yj 27 q0] (.block 2 (.loop (Yr [Yo 28 .lss k27 k26] (sQ (.cond k28 .skip (.exit 2)) (sQ (.block 3 (Yr [Yi 29 2 25 27,Yl 30 2 29,
 Yz 11 [nS,nS],Ys 2 11 30] (Yg [oM 31 9,Yl 32 2 11,Yl 33 2 8,Yc 34 168 [k32,k33],oO 35 (.append [nS,nS] 48 k31 k34),oM 9 35]))) (Yg [Yo 36 .add k27 q1,oM 27 36]))))))) (sQ (Yr [oM 37 9,Yn 38 37,Yo 39 .gtr k38 (kI 2000)] (.cond k39 (Yr [oO 4 (.mov (.const nS)),
 Yj 5 q3] .ret) .skip)) (Yg [oM 40 9,oM 6 40])))))) (Yg [Yo 41 .add k21 q1,oM 21 41]))))))) (Yr [oM 42 6,oM 4 42,Yj 5 q0] .ret)))))
theorem ok124:Y4 124 43 ir124 [.tmp 4,.tmp 5]:=Yf Tryz.func124 Tryz.ntmps124
def ir125:X4:=(Yr [oO 2 (.mov (.const nS))] (sQ (Yr [oM 3 0,oO 4 (.isnil false k3)] (.cond k4 (Yr [oO 2 (.mov (.const nS))] .ret) .skip)) (Yr [oO 5 (.bslice [z0] 0 []),oM 6 0,oO 7 (.append [z0] 8 k5 k6),
 oM 2 7] .ret)))
theorem ok125:Y4 125 8 ir125 [.tmp 2]:=Yf Tryz.func125 Tryz.ntmps125
def ir126:X4:=(Yr [Yb 3 1,Yj 4 kF] (Yr [oM 5 0,oO 6 (.mkfn 170 [k3]),Yc 7 169 [k5,k6],Yh 8 7,oM 4 8] .ret))
theorem ok126:Y4 126 9 ir126 [.tmp 4]:=Yf Tryz.func126 Tryz.ntmps126
def ir127:X4:=(Yr [oO 2 (.mov (.const nS))] (sQ (Yr [oM 3 0,oO 4 (.bin .eql .ptr k3 (.const nP))] (.cond k4 (Yr [oO 2 (.mov (.const nS))] .ret) .skip)) (Yr [oM 5 0,oO 6 (.nilck k5),Ya 7 0 6,Yk 8 7,Yc 9 150 [k8],
 oM 2 9] .ret)))
theorem ok127:Y4 127 10 ir127 [.tmp 2]:=Yf Tryz.func127 Tryz.ntmps127
def ir128:X4:=(Yr [Yb 2 0,Yj 3 kF] (Yr [Yl 4 1 1,oO 5 (.iaddrA 2 1 k2 q0),Yk 6 5,Yc 7 29 [k4,k6],oM 8 7,oT 8 9 (.load true 1 k1),oT 8 10 (.iaddrA 2 1 k2 q1),oT 8 11 (.load false 1 k10),oT 8 12 (kC 29 [k9,
 k11]),Ym 13 8 12,oM 3 13] .ret))
theorem ok128:Y4 128 14 ir128 [.tmp 3]:=Yf Tryz.func128 Tryz.ntmps128
def ir129:X4:=(Yr [Yb 2 0,Yj 3 kF] (Yr [Yl 4 1 1,Ya 5 3 2,Yk 6 5,Yc 7 29 [k4,k6],oM 3 7] .ret))
theorem ok129:Y4 129 8 ir129 [.tmp 3]:=Yf Tryz.func129 Tryz.ntmps129
def ir130:X4:=(Yr [Yb 3 1,Yj 4 kF] (Yr [oM 5 0,oO 6 (.mkfn 171 [k3]),Yc 7 33 [k5,k6],Yh 8 7,oM 4 8] .ret))
theorem ok130:Y4 130 9 ir130 [.tmp 4]:=Yf Tryz.func130 Tryz.ntmps130
def ir131:X4:=(Yr [Yb 2 0,Yj 3 kF] (sQ (.draw [Yd 0 (Ya 4 0 2) 0 0,Yd 1 (Yl 5 1 4) 1 0,Yd 2 (Ya 6 1 2) 0 0,Yd 3 (Yl 7 1 6) 4 0,Yd 4 (Yc 8 70 [k5,k7]) 15 0,Yd 5 (Yl 9 1 1) 0 0,Yd 6 (Yc 10 90 [k8,k9]) 63 1,
 Yd 7 (oM 3 10) 127 1]) .ret))
theorem ok131:Y4 131 11 ir131 [.tmp 3]:=Yf Tryz.func131 Tryz.ntmps131
def ir132:X4:=(Yr [Yj 4 kF] (Yr [oM 5 0,oM 6 1,Yc 7 151 [k5,k6],Yo 8 .geq k7 q0,oM 4 8] .ret))
theorem ok132:Y4 132 9 ir132 [.tmp 4]:=Yf Tryz.func132 Tryz.ntmps132
def ir133:X4:=(Yr [Yb 2 0,Yj 3 kF] (Yr [Yk 4 1,Yl 5 5 2,oO 6 (.call k4 [k5]),Yh 7 6,oM 3 7] .ret))
theorem ok133:Y4 133 8 ir133 [.tmp 3]:=Yf Tryz.func133 Tryz.ntmps133
def ir134:X4:=(Yr [Ya 5 0 1,Yk 6 5,Yn 7 6,Yj 8 q0] (.block 0 (.loop (Yr [Yo 9 .lss k8 k7] (sQ (.cond k9 .skip (.exit 0)) (sQ (.block 1 (Yr [oM 10 8,Yi 11 1 6 8,Yk 12 11,oM 3 10,oM 4 12] (.block 2 (.loop (sQ (Yr [oM 13 4,
 Yo 14 .neq k13 (kW 0)] (.cond k14 .skip (.exit 2))) (sQ (.block 3 (Yr [oM 19 0,oM 20 3,Yo 21 .mul q64 k20,oM 22 4,Yc 23 135 [k22],Yo 24 .add k21 k23,oO 25 (.call k19 [k24]),Yh 26 25] (.cond k26 .ret .skip))) (Yg [oM 15 4,
 oM 16 4,Yo 17 .sub k16 (kW 1),Yo 18 .and k15 k17,oM 4 18]))))))) (Yg [Yo 27 .add k8 q1,oM 8 27])))))))
theorem ok134:Y4 134 28 ir134 []:=Yf Tryz.func134 Tryz.ntmps134
def ir135:X4:=(Yr [Yj 2 q0] (sQ (Yr [oM 3 0,Yo 4 .eql k3 (kW 0)] (.cond k4 (Yr [Yj 2 q64] .ret) .skip)) (Yr [oM 5 0,oM 6 0,oO 7 (.una .neg k6),Yo 8 .and k5 k7,Yo 9 .mul k8 (kW 285870213051353865),Yo 10 .shr k9 (kW 58),
 oO 11 (.iaddrA 64 1 (.global 0) k10),Yk 12 11,oO 13 (.conv .i64 k12),oM 2 13] .ret)))
theorem ok135:Y4 135 14 ir135 [.tmp 2]:=Yf Tryz.func135 Tryz.ntmps135
def ir136:X4:=(Yr [Yz 4 [nS]] (sQ (Yr [oM 5 0,oM 6 1,Yc 7 148 [k5,k6],Yh 8 7] (.cond k8 (Yr [oO 9 (.build [nS] []),Ys 1 4 9] .ret) .skip)) (Yr [oM 10 0,oO 11 (.nilck k10),Ya 12 2 11,Yk 13 12,oM 14 1,
 Yi 15 1 13 14,Yl 16 1 15,Ys 1 4 16] .ret)))
theorem ok136:Y4 136 17 ir136 [.cell 4 true 1]:=Yf Tryz.func136 Tryz.ntmps136
def ir137:X4:=(Yr [oM 4 0,oO 5 (.bin .neq .ptr k4 (.const nP))] (.cond k5 (Yg [oM 6 0,oM 7 0,oO 8 (.nilck k7),Ya 9 0 8,Yk 10 9,oM 11 1,oO 12 (.append [Yu] 1 k10 k11),oO 13 (.nilck k6),Ya 14 0 13,Ys 1 14 12]) .skip))
theorem ok137:Y4 137 15 ir137 []:=Yf Tryz.func137 Tryz.ntmps137
def ir138:X4:=(Yr [oO 2 (.mov (.const nS))] (Yr [oM 4 0,Yo 5 .and k4 (kW 127),oO 6 (.conv .u8 k5),oO 7 (.bslice [Yu] 1 [(0,k6)]),oM 3 7] (sQ (Yr [oM 8 0,Yo 9 .shr k8 (kW 7),oM 0 9] (.block 0 (.loop (sQ (Yr [oM 10 0,
 Yo 11 .gtr k10 (kW 0)] (.cond k11 .skip (.exit 0))) (sQ (.block 1 (Yg [oM 14 3,oM 15 0,Yo 16 .and k15 (kW 127),oO 17 (.conv .u8 k16),Yo 18 .or k17 (kB 128),oO 19 (.bslice [Yu] 1 [(0,k18)]),oO 20 (.append [Yu] 1 k14 k19),
 oM 3 20])) (Yg [oM 12 0,Yo 13 .shr k12 (kW 7),oM 0 13])))))) (Yr [oM 21 3,Yc 22 172 [k21]] (Yr [oM 23 3,oM 2 23] .ret)))))
theorem ok138:Y4 138 24 ir138 [.tmp 2]:=Yf Tryz.func138 Tryz.ntmps138
def ir139:X4:=(Yr [Yb 1 0,oO 2 (.mov (.const nS))] (Yr [Yl 8 1 1,Yc 9 173 [k8],oM 7 9,Yx 10 7 0,Yx 11 7 1,oM 3 10,oM 4 11] (sQ (Yr [oM 12 4,Yh 13 12] (.cond k13 (Yr [oO 2 (.mov (.const nS))] .ret) .skip)) (Yr [oM 14 3,
 Yo 15 .quo k14 q8,Yo 16 .add k15 q1,oO 17 (.mslice [Yu] 1 k16 k16),oM 5 17] (sQ (Yr [oM 18 5,Yn 19 18,Yj 20 q0] (.block 0 (.loop (Yr [Yo 21 .lss k20 k19] (sQ (.cond k21 .skip (.exit 0)) (sQ (.block 1 (Yr [oM 22 20,
 oM 6 22] (Yg [oM 23 5,oM 24 6,Ya 25 0 1,Yk 26 25,oM 27 6,Yo 28 .quo k27 q8,Yi 29 1 26 28,Yk 30 29,oM 31 6,Yo 32 .rem k31 q8,Yo 33 .mul q8 k32,Yo 34 .shr k30 k33,oO 35 (.conv .u8 k34),Yi 36 1 23 24,Ys 1 36 35]))) (Yg [Yo 37 .add k20 q1,
 oM 20 37]))))))) (Yr [oM 38 5,oM 2 38] .ret))))))
theorem ok139:Y4 139 39 ir139 [.tmp 2]:=Yf Tryz.func139 Tryz.ntmps139
def ir140:X4:=(Yg [oM 4 0,oM 5 1,oO 6 (.s2b k5),Yc 7 78 [k4,k6]])
theorem ok140:Y4 140 8 ir140 []:=Yf Tryz.func140 Tryz.ntmps140
def ir141:X4:=(Yr [Yz 2 Y1] (Yr [Yc 4 174 [],oM 3 4] (Yr [oM 5 3,oM 6 0,Yc 7 175 [k5,k6]] (Yr [oM 8 3,Yc 9 176 [k8],Ys 32 2 9] .ret))))
theorem ok141:Y4 141 10 ir141 [.cell 2 true 32]:=Yf Tryz.func141 Tryz.ntmps141
def ir142:X4:=(Yr [oO 2 (.mov (.const nS))] (sQ (Yr [oM 3 0,oO 4 (.isnil false k3)] (.cond k4 (Yr [oO 2 (.mov (.const nS))] .ret) .skip)) (Yr [oO 5 (.bslice [Yu] 0 []),oM 6 0,oO 7 (.append [Yu] 1 k5 k6),
 oM 2 7] .ret)))
theorem ok142:Y4 142 8 ir142 [.tmp 2]:=Yf Tryz.func142 Tryz.ntmps142
def ir146:X4:=(Yr [Yj 4 q0] (sQ (Yr [oM 6 0,Yn 7 6,Yj 8 q0] (.block 0 (.loop (Yr [Yo 9 .lss k8 k7] (sQ (.cond k9 .skip (.exit 0)) (sQ (.block 1 (Yr [oM 10 8,oM 5 10] (Yr [oM 11 1,oM 12 0,oM 13 5,Yi 14 1 12 13,
 Yk 15 14,Yo 16 .eql k11 k15] (.cond k16 (Yr [oM 17 5,oM 4 17] .ret) .skip)))) (Yg [Yo 18 .add k8 q1,oM 8 18]))))))) (Yr [oO 4 (.mov (.const (.int .i64 (-1))))] .ret)))
theorem ok146:Y4 146 19 ir146 [.tmp 4]:=Yf Tryz.func146 Tryz.ntmps146
def ir147:X4:=(Yr [Yz 4 [nS]] (sQ (Yr [oM 5 0,oM 6 1,Yc 7 148 [k5,k6],Yh 8 7] (.cond k8 (Yr [oO 9 (.build [nS] []),Ys 1 4 9] .ret) .skip)) (Yr [oM 10 0,oO 11 (.nilck k10),Ya 12 3 11,Yk 13 12,oM 14 1,
 Yi 15 1 13 14,Yl 16 1 15,Ys 1 4 16] .ret)))
theorem ok147:Y4 147 17 ir147 [.cell 4 true 1]:=Yf Tryz.func147 Tryz.ntmps147
def ir148:X4:=(Yr [Yj 4 kF] (Yr [oM 5 0,oO 6 (.bin .neq .ptr k5 (.const nP)),oM 7 6,oT 7 8 (.mov k1),oT 7 9 (.bin .geq .num k8 q0),Ym 10 7 9,oM 11 10,oT 11 12 (.mov k1),oT 11 13 (.mov k0),oT 11 14 (.nilck k13),
 oT 11 15 (.faddr 0 k14),oT 11 16 (.load false 1 k15),oT 11 17 (.bin .lss .num k12 k16),Ym 18 11 17,oM 4 18] .ret))
theorem ok148:Y4 148 19 ir148 [.tmp 4]:=Yf Tryz.func148 Tryz.ntmps148
def ir149:X4:=(Yr [Yb 3 1,Yj 4 kF] (Yr [oM 5 0,Yl 6 2 3,Yc 7 187 [k5,k6],Yo 8 .geq k7 q0,oM 4 8] .ret))
theorem ok149:Y4 149 9 ir149 [.tmp 4]:=Yf Tryz.func149 Tryz.ntmps149
def ir150:X4:=(Yr [oO 2 (.mov (.const nS))] (sQ (Yr [oM 3 0,oO 4 (.bin .eql .ptr k3 (.const nP))] (.cond k4 (Yr [oO 2 (.mov (.const nS))] .ret) .skip)) (Yr [oM 5 0,oO 6 (.nilck k5),Ya 7 1 6,Yk 8 7,Yc 9 188 [k8],
 oM 2 9] .ret)))
theorem ok150:Y4 150 10 ir150 [.tmp 2]:=Yf Tryz.func150 Tryz.ntmps150
def ir151:X4:=(Yr [Yj 4 q0] (sQ (Yr [oM 6 0,Yn 7 6,Yj 8 q0] (.block 0 (.loop (Yr [Yo 9 .lss k8 k7] (sQ (.cond k9 .skip (.exit 0)) (sQ (.block 1 (Yr [oM 10 8,oM 5 10] (Yr [oM 11 1,oM 12 0,oM 13 5,Yi 14 5 12 13,
 Yl 15 5 14,oO 16 (.call k11 [k15])] (.cond k16 (Yr [oM 17 5,oM 4 17] .ret) .skip)))) (Yg [Yo 18 .add k8 q1,oM 8 18]))))))) (Yr [oO 4 (.mov (.const (.int .i64 (-1))))] .ret)))
theorem ok151:Y4 151 19 ir151 [.tmp 4]:=Yf Tryz.func151 Tryz.ntmps151
def ir152:X4:=(Yr [Yb 3 0,Yj 4 kF] (Yr [Ya 5 0 3,Yk 6 5,Yh 7 6,oM 8 7,oT 8 9 (.load true 1 k1),oT 8 10 (.faddr 3 k3),oT 8 11 (.load false 1 k10),oT 8 12 (kC 29 [k9,k11]),oT 8 13 (.una .not k12),Ym 14 8 13,
 oM 15 14,oT 15 16 (.faddr 1 k3),oT 15 17 (.faddr 0 k16),oT 15 18 (.load true 1 k17),oT 15 19 (.load true 1 k2),oT 15 20 (kC 90 [k18,k19]),Ym 21 15 20,oM 4 21] .ret))
theorem ok152:Y4 152 22 ir152 [.tmp 4]:=Yf Tryz.func152 Tryz.ntmps152
def ir153:X4:=(Yr [Yb 1 0,oO 2 (.mov (.const nS)),Yj 3 q0] (sQ (Yr [Yl 7 6 1,Yc 8 26 [k7],oM 4 8] (Yr [oM 9 4,Yo 10 .neq k9 q0] (.cond k10 (Yr [oM 11 4,oO 2 (.mov (.const nS)),oM 3 11] .ret) .skip))) (Yr [Yl 13 6 1,
 Ya 14 4 1,Yk 15 14,Yc 16 156 [k13,k15],oM 12 16,Yx 17 12 0,Yx 18 12 1,oM 5 17,oM 6 18] (sQ (Yr [oM 19 6,Yo 20 .neq k19 q0] (.cond k20 (Yr [oM 21 6,oO 2 (.mov (.const nS)),oM 3 21] .ret) .skip)) (Yr [oM 22 5,
 Yc 23 158 [k22],Yx 24 23 0,Yx 25 23 1,oM 2 24,oM 3 25] .ret)))))
theorem ok153:Y4 153 26 ir153 [.tmp 2,.tmp 3]:=Yf Tryz.func153 Tryz.ntmps153
def ir154:X4:=(Yr [Yb 2 0,Yb 3 1,Yz 4 [nS],Yz 5 [z0]] (sQ (Yr [Ya 15 1 2,Yk 16 15,oO 17 (.bin .eql .ptr k16 (.const nP))] (.cond k17 (Yr [⟨none,.store 1 k4 (.const nS),none⟩,⟨none,.store 1 k5 q1,none⟩] .ret) .skip)) (Yr [Ya 18 0 2,
 Yk 19 18,Yo 20 .add k19 q1,Yc 21 88 [k20],Yc 22 89 [k21,q0],Yz 6 [nS],Ys 1 6 22] (sQ (sQ (.draw [Yd 0 (Ya 23 0 3) 0 0,Yd 1 (Yl 24 1 23) 1 0,Yd 2 (Ya 25 1 3) 0 0,Yd 3 (Yl 26 1 25) 4 0,Yd 4 (Yc 27 70 [k24,
 k26]) 15 0,Yd 5 (Yl 28 1 6) 0 0,Yd 6 (Yc 29 90 [k27,k28]) 63 1,Yd 7 (Yh 30 29) 127 1]) (.cond k30 (Yr [⟨none,.store 1 k4 (.const nS),none⟩,⟨none,.store 1 k5 q4,none⟩] .ret) .skip)) (Yr [Yz 7 [nS]] (sQ (Yr [Ya 31 1 3,
 Yl 32 1 31,Yc 33 73 [k32]] (.block 0 (.range k33 [34] [(8,k34)] (.block 1 (.draw [Yd 0 (Yl 35 1 7) 0 0,Yd 1 (Ya 36 1 2) 0 0,Yd 2 (Yk 37 36) 2 0,Yd 3 (oM 38 8) 0 0,Yd 4 (Yc 39 74 [k37,k38]) 14 0,Yd 5 (Yl 40 1 6) 0 0,
 Yd 6 (Yc 41 28 [k39,k40]) 62 0,Yd 7 (Yc 42 70 [k35,k41]) 127 1,Yd 8 (Ys 1 7 42) 255 1]))))) (Yr [Yl 43 1 7,oO 44 (.build [nS,nS] [(1,1,k43)]),oO 45 (.bslice [nS,nS] 1 [(0,k44)]),Yz 9 [nS],Ys 1 9 45] (sQ (Yr [Ya 46 0 3,
 Yl 47 1 46,Yc 48 73 [k47]] (.block 2 (.range k48 [49] [(10,k49)] (.block 3 (Yr [Yz 11 [nS]] (sQ (Yr [Yk 50 9,Yn 51 50,Yj 52 q0] (.block 4 (.loop (Yr [Yo 53 .lss k52 k51] (sQ (.cond k53 .skip (.exit 4)) (sQ (.block 5 (Yr [Yi 54 2 50 52,
 Yl 55 2 54,Yz 13 [nS,nS],Ys 2 13 55] (sQ (.draw [Yd 0 (Ya 56 1 2) 0 0,Yd 1 (Yk 57 56) 1 0,Yd 2 (oM 58 10) 0 0,Yd 3 (Yc 59 74 [k57,k58]) 7 0,Yd 4 (Yl 60 1 6) 0 0,Yd 5 (Yc 61 28 [k59,k60]) 31 1,Yd 6 (Yc 62 73 [k61]) 63 1]) (.block 6 (.range k62 [63] [(14,
 k63)] (.block 7 (.draw [Yd 0 (Yk 64 11) 0 0,Yd 1 (Ya 65 0 13) 0 0,Yd 2 (Yl 66 1 65) 2 0,Yd 3 (oM 67 14) 0 0,Yd 4 (Yc 68 104 [k66,k67]) 14 0,Yd 5 (Ya 69 1 13) 0 0,Yd 6 (Yl 70 1 69) 32 0,Yd 7 (oO 71 (.build [nS,
 nS] [(0,1,k68),(1,1,k70)])) 126 0,Yd 8 (oO 72 (.bslice [nS,nS] 1 [(0,k71)])) 254 0,Yd 9 (oO 73 (.append [nS,nS] 48 k64 k72)) 511 1,Yd 10 (Ys 1 11 73) 1023 1]))))))) (Yg [Yo 74 .add k52 q1,oM 52 74]))))))) (Yr [Yk 75 11,
 Yc 76 189 [k75],Ys 1 9 76] (Yr [Yk 77 9,Yn 78 77,Yo 79 .gtr k78 (kI 2000)] (.cond k79 (Yr [⟨none,.store 1 k4 (.const nS),none⟩,⟨none,.store 1 k5 q3,none⟩] .ret) .skip))))))))) (Yr [Yk 80 9,Ys 1 4 80,⟨none,
 .store 1 k5 q0,none⟩] .ret)))))))))
theorem ok154:Y4 154 81 ir154 [.cell 4 false 1,.cell 5 false 1]:=Yf Tryz.func154 Tryz.ntmps154
def ir155:X4:=(Yr [Yb 3 0,Yz 6 [nS,nS],Yj 7 kF] (sQ (Yr [oM 8 2] (.cond k8 (sQ (.draw [Yd 0 (Ya 9 0 3) 0 0,Yd 1 (Yl 10 1 9) 1 0,Yd 2 (Ya 11 1 3) 0 0,Yd 3 (Yl 12 1 11) 4 0,Yd 4 (oM 13 1) 0 0,Yd 5 (Yc 14 89 [k12,
 k13]) 28 0,Yd 6 (oO 15 (.build [nS,nS] [(0,1,k10),(1,1,k14)])) 63 0,Yd 7 (Ya 16 0 3) 0 0,Yd 8 (Yl 17 1 16) 128 0,Yd 9 (oM 18 1) 0 0,Yd 10 (Yc 19 29 [k17,k18]) 956 0,Yd 11 (Yh 20 19) 1980 0,Yd 12 (Ys 2 6 15) 2047 1,
 Yd 13 (oM 7 20) 8191 1]) .ret) .skip)) (sQ (.draw [Yd 0 (Ya 21 0 3) 0 0,Yd 1 (Yl 22 1 21) 1 0,Yd 2 (oM 23 1) 0 0,Yd 3 (Yc 24 89 [k22,k23]) 7 0,Yd 4 (Ya 25 1 3) 0 0,Yd 5 (Yl 26 1 25) 16 0,Yd 6 (oO 27 (.build [nS,
 nS] [(0,1,k24),(1,1,k26)])) 63 0,Yd 7 (Ya 28 1 3) 0 0,Yd 8 (Yl 29 1 28) 128 0,Yd 9 (oM 30 1) 0 0,Yd 10 (Yc 31 29 [k29,k30]) 911 0,Yd 11 (Yh 32 31) 1935 0,Yd 12 (Ys 2 6 27) 2047 1,Yd 13 (oM 7 32) 8191 1]) .ret)))
theorem ok155:Y4 155 33 ir155 [.cell 6 true 2,.tmp 7]:=Yf Tryz.func155 Tryz.ntmps155
def ir156:X4:=(Yr [Yb 2 0,oO 4 (.mov (.const nS)),Yj 5 q0] (Yr [oO 6 (.mov (.const nS))] (sQ (Yr [oM 11 1,Yn 12 11,Yj 13 q0] (.block 0 (.loop (Yr [Yo 14 .lss k13 k12] (sQ (.cond k14 .skip (.exit 0)) (sQ (.block 1 (Yr [Yi 15 2 11 13,
 Yl 16 2 15,Yz 8 [nS,nS],Ys 2 8 16] (Yr [Yl 18 6 2,Yl 19 2 8,Yc 20 154 [k18,k19],oM 17 20,Yx 21 17 0,Yx 22 17 1,oM 9 21,oM 10 22] (sQ (Yr [oM 23 10,Yo 24 .neq k23 q0] (.cond k24 (Yr [oM 25 10,oO 4 (.mov (.const nS)),
 oM 5 25] .ret) .skip)) (Yg [oM 26 6,oM 27 9,oO 28 (.append [nS,nS] 48 k26 k27),oM 6 28]))))) (Yg [Yo 29 .add k13 q1,oM 13 29]))))))) (Yr [oM 30 6,oM 4 30,Yj 5 q0] .ret))))
theorem ok156:Y4 156 31 ir156 [.tmp 4,.tmp 5]:=Yf Tryz.func156 Tryz.ntmps156
def ir157:X4:=(Yr [oO 4 (.mov (.const nS)),Yj 5 q0] (Yr [oO 6 (.mov (.const nS))] (sQ (Yr [oM 11 0,Yn 12 11,Yj 13 q0] (.block 0 (.loop (Yr [Yo 14 .lss k13 k12] (sQ (.cond k14 .skip (.exit 0)) (sQ (.block 1 (Yr [Yi 15 2 11 13,
 Yl 16 2 15,Yz 8 [nS,nS],Ys 2 8 16] (Yr [Yl 18 2 8,oM 19 1,Yc 20 124 [k18,k19],oM 17 20,Yx 21 17 0,Yx 22 17 1,oM 9 21,oM 10 22] (sQ (Yr [oM 23 10,Yo 24 .neq k23 q0] (.cond k24 (Yr [oM 25 10,oO 4 (.mov (.const nS)),
 oM 5 25] .ret) .skip)) (Yg [oM 26 6,oM 27 9,oO 28 (.append [nS,nS] 48 k26 k27),oM 6 28]))))) (Yg [Yo 29 .add k13 q1,oM 13 29]))))))) (Yr [oM 30 6,oM 4 30,Yj 5 q0] .ret))))
theorem ok157:Y4 157 31 ir157 [.tmp 4,.tmp 5]:=Yf Tryz.func157 Tryz.ntmps157
def ir158:X4:=(Yr [oO 2 (.mov (.const nS)),Yj 3 q0] (Yr [oM 4 0,Yc 5 189 [k4],oM 0 5] (sQ (Yr [oM 6 0,Yn 7 6,Yo 8 .gtr k7 (kI 2000)] (.cond k8 (Yr [oO 2 (.mov (.const nS)),Yj 3 q3] .ret) .skip)) (Yr [oM 9 0,
 oM 2 9,Yj 3 q0] .ret))))
theorem ok158:Y4 158 10 ir158 [.tmp 2,.tmp 3]:=Yf Tryz.func158 Tryz.ntmps158
def ir159:X4:=(Yr [Yb 2 0,Yj 4 kF] (sQ (Yr [Yl 7 2 2,Yc 8 67 [k7]] (.cond k8 (Yr [Yj 4 kT] .ret) .skip)) (sQ (.block 0 (.loop (sQ (sQ (.draw [Yd 0 (oM 9 1) 0 1,Yd 1 (Yn 10 9) 1 1,Yd 2 (Yo 11 .gtr k10 q0) 3 1,
 Yd 3 (oM 12 11) 7 1,Yd 4 (oT 12 13 (.load true 2 k2)) 15 0,Yd 5 (oT 12 14 (.mov k1)) 15 0,Yd 6 (oT 12 15 (.iaddr 2 k14 q0)) 47 0,Yd 7 (oT 12 16 (.load true 2 k15)) 111 0,Yd 8 (oT 12 17 (kC 190 [k13,k16])) 255 1,
 Yd 9 (oT 12 18 (kC 67 [k17])) 511 1,Yd 10 (Ym 19 12 18) 1023 1]) (.cond k19 .skip (.exit 0))) (.block 1 (Yg [oM 20 1,oO 21 (.slc 2 k20 (some q1) none none),oM 1 21]))))) (sQ (Yr [oM 22 1,Yn 23 22,Yo 24 .eql k23 q0] (.cond k24 (Yr [Yj 4 kF] .ret) .skip)) (sQ (sQ (.draw [Yd 0 (Yl 25 2 2) 0 0,
 Yd 1 (oM 26 1) 0 0,Yd 2 (oO 27 (.iaddr 2 k26 q0)) 2 0,Yd 3 (Yl 28 2 27) 6 0,Yd 4 (Yc 29 168 [k25,k28]) 15 1,Yd 5 (Yn 30 29) 31 1,Yd 6 (Yj 31 q0) 0 0]) (.block 2 (.loop (Yr [Yo 32 .lss k31 k30] (sQ (.cond k32 .skip (.exit 2)) (sQ (.block 3 (Yr [Yi 33 2 29 31,
 Yl 34 2 33,Yz 6 [nS,nS],Ys 2 6 34] (sQ (.draw [Yd 0 (Yl 35 2 6) 0 0,Yd 1 (oM 36 1) 0 0,Yd 2 (oO 37 (.slc 2 k36 (some q1) none none)) 2 0,Yd 3 (Yc 38 159 [k35,k37]) 7 1,Yd 4 (Yh 39 38) 15 1]) (.cond k39 (Yr [Yj 4 kF] .ret) .skip)))) (Yg [Yo 40 .add k31 q1,
 oM 31 40]))))))) (Yr [Yj 4 kT] .ret))))))
theorem ok159:Y4 159 41 ir159 [.tmp 4]:=Yf Tryz.func159 Tryz.ntmps159
def ir160:X4:=(Yr [Yb 4 1,oO 6 (.mov (.const nS)),Yj 7 q0] (Yr [oM 17 0,oO 18 (.nilck k17),Ya 19 0 18,Ya 20 3 19,Yk 21 20,oM 22 2,Yi 23 5 21 22,Yl 24 5 23,oO 8 (.alloc [(.bool false),nS,nS,z0,z0]),Ys 5 8 24] (Yr [Yl 26 2 4,
 Ya 27 3 8,Yk 28 27,Ya 29 0 8,Yk 30 29,Yc 31 155 [k26,k28,k30],oM 25 31,Yx 32 25 0,Yx 33 25 1,Yz 9 [nS,nS],Ys 2 9 32,oM 10 33] (sQ (Yr [oM 34 10,Yh 35 34] (.cond k35 (Yr [oO 6 (.mov (.const nS)),Yj 7 q0] .ret) .skip)) (sQ (Yr [Ya 36 0 8,
 Yk 37 36] (.cond k37 (Yg [Ya 38 0 9,Yl 39 1 38,Ya 40 3 8,Yk 41 40,Yc 42 104 [k39,k41],Ya 43 0 9,Ys 1 43 42]) (Yg [Ya 44 1 9,Yl 45 1 44,Ya 46 3 8,Yk 47 46,Yc 48 104 [k45,k47],Ya 49 1 9,Ys 1 49 48]))) (Yr [oO 11 (.mov (.const nS))] (sQ (Yr [oM 50 0,
 oO 51 (.nilck k50),Ya 52 7 51,Yk 53 52,oM 54 2,Yi 55 1 53 54,Yk 56 55,Yn 57 56,Yj 58 q0] (.block 0 (.loop (Yr [Yo 59 .lss k58 k57] (sQ (.cond k59 .skip (.exit 0)) (sQ (.block 1 (Yr [Yi 60 2 56 58,Yl 61 2 60,
 Yz 13 [nS,nS],Ys 2 13 61] (Yr [Yl 63 2 9,Yl 64 2 13,Yc 65 191 [k63,k64],oM 62 65,Yx 66 62 0,Yx 67 62 1,Yz 14 [nS,nS],Ys 2 14 66,oM 15 67] (Yr [oM 68 15] (.cond k68 (Yg [oM 69 11,Yl 70 2 14,oO 71 (.bslice [nS,
 nS] 1 [(0,k70)]),oO 72 (.append [nS,nS] 48 k69 k71),oM 11 72]) .skip))))) (Yg [Yo 73 .add k58 q1,oM 58 73]))))))) (Yr [oM 75 11,oM 76 0,oO 77 (.nilck k76),Ya 78 8 77,Yk 79 78,oM 80 2,Yi 81 1 79 80,Yk 82 81,
 Yc 83 157 [k75,k82],oM 74 83,Yx 84 74 0,Yx 85 74 1,oM 11 84,oM 16 85] (sQ (Yr [oM 86 16,Yo 87 .neq k86 q0] (.cond k87 (Yr [oM 88 16,oO 6 (.mov (.const nS)),oM 7 88] .ret) .skip)) (Yr [oM 89 11,Yc 90 158 [k89],
 Yx 91 90 0,Yx 92 90 1,oM 6 91,oM 7 92] .ret))))))))))
theorem ok160:Y4 160 93 ir160 [.tmp 6,.tmp 7]:=Yf Tryz.func160 Tryz.ntmps160
def ir167:X4:=(Yr [Yb 2 0,Yb 3 1,Yj 4 q0] (sQ (Yr [Ya 8 0 2,Yk 9 8,Yn 10 9,Ya 11 0 3,Yk 12 11,Yn 13 12,oO 14 (.mx k10 k13),Yj 15 q0] (.block 0 (.loop (Yr [Yo 16 .lss k15 k14] (sQ (.cond k16 .skip (.exit 0)) (sQ (.block 1 (Yr [oM 17 15,
 oM 5 17] (sQ (.draw [Yd 0 (Yl 18 1 2) 0 0,Yd 1 (oM 19 5) 0 0,Yd 2 (Yc 20 72 [k18,k19]) 3 0,Yd 3 (Yl 21 1 3) 0 0,Yd 4 (oM 22 5) 0 0,Yd 5 (Yc 23 72 [k21,k22]) 31 1,Yd 6 (Yo 24 .xor k20 k23) 63 1,Yd 7 (oM 6 24) 127 1]) (sQ (Yr [oM 25 6,
 Yo 26 .eql k25 (kW 0)] (.cond k26 (.exit 1) .skip)) (Yr [oM 27 5,Yo 28 .mul q64 k27,oM 29 6,Yc 30 135 [k29],Yo 31 .add k28 k30,oM 7 31] (sQ (sQ (.draw [Yd 0 (Yl 32 1 2) 0 0,Yd 1 (oM 33 7) 0 0,Yd 2 (Yc 34 29 [k32,
 k33]) 3 0,Yd 3 (Yl 35 1 3) 0 0,Yd 4 (oM 36 7) 0 0,Yd 5 (Yc 37 29 [k35,k36]) 31 1,Yd 6 (oO 38 (.bin .eql .bool k34 k37)) 63 1]) (.cond k38 (Yr [Yj 4 q0] .ret) .skip)) (sQ (Yr [Yl 39 1 2,oM 40 7,Yc 41 29 [k39,
 k40],oM 42 41,oT 42 43 (.load true 1 k3),oT 42 44 (.mov k7),oT 42 45 (kC 195 [k43,k44]),Ym 46 42 45,oM 47 46,oF 47 48 (.load true 1 k3),oF 47 49 (.mov k7),oF 47 50 (kC 29 [k48,k49]),oF 47 51 (.mov k50),
 oT 51 52 (.load true 1 k2),oT 51 53 (.mov k7),oT 51 54 (kC 195 [k52,k53]),oT 51 55 (.una .not k54),oF 47 56 (.pick k51 k55 kF),Yq 57 47 56] (.cond k57 (Yr [oO 4 (.mov (.const (.int .i64 (-1))))] .ret) .skip)) (Yr [Yj 4 q1] .ret)))))))) (Yg [Yo 58 .add k15 q1,
 oM 15 58]))))))) (Yr [Yj 4 q0] .ret)))
theorem ok167:Y4 167 59 ir167 [.tmp 4]:=Yf Tryz.func167 Tryz.ntmps167
def ir168:X4:=(Yr [Yb 2 0,Yb 3 1,oO 4 (.mov (.const nS))] (sQ (Yr [Yl 9 2 2,Yc 10 67 [k9]] (.cond k10 (Yr [oO 4 (.mov (.const nS))] .ret) .skip)) (sQ (Yr [Yl 12 2 2,Yl 13 2 3,Yc 14 191 [k12,k13],oM 11 14,
 Yx 15 11 0,Yx 16 11 1,Yz 5 [nS,nS],Ys 2 5 15,oM 6 16] (Yr [oM 17 6,Yh 18 17] (.cond k18 (Yr [Yl 19 2 2,oO 20 (.bslice [nS,nS] 1 [(0,k19)]),oM 4 20] .ret) .skip))) (Yr [Yz 7 [nS]] (sQ (Yr [Ya 21 0 3,Yl 22 1 21,
 Ya 23 1 3,Yl 24 1 23,Yc 25 70 [k22,k24],Yc 26 73 [k25]] (.block 0 (.range k26 [27] [(8,k27)] (.block 1 (.block 2 (Yr [Ya 29 0 3,Yl 30 1 29,oM 31 8,Yc 32 29 [k30,k31],oM 33 32,oT 33 34 (.faddr 0 k2),oT 33 35 (.load true 1 k34),
 oT 33 36 (.mov k8),oT 33 37 (kC 29 [k35,k36]),oT 33 38 (.una .not k37),Ym 39 33 38,oM 28 39] (.cond k28 (sQ (.draw [Yd 0 (Yk 40 7) 0 0,Yd 1 (Ya 41 0 2) 0 0,Yd 2 (Yl 42 1 41) 2 0,Yd 3 (Ya 43 1 2) 0 0,Yd 4 (Yl 44 1 43) 8 0,
 Yd 5 (oM 45 8) 0 0,Yd 6 (Yc 46 104 [k44,k45]) 56 0,Yd 7 (oO 47 (.build [nS,nS] [(0,1,k42),(1,1,k46)])) 126 0,Yd 8 (oO 48 (.bslice [nS,nS] 1 [(0,k47)])) 254 0,Yd 9 (oO 49 (.append [nS,nS] 48 k40 k48)) 511 1,
 Yd 10 (Ys 1 7 49) 1023 1]) (Yg [Ya 50 0 2,Yl 51 1 50,oM 52 8,Yc 53 104 [k51,k52],Ya 54 0 2,Ys 1 54 53])) (Yr [Ya 56 1 3,Yl 57 1 56,oM 58 8,Yc 59 29 [k57,k58],oM 60 59,oT 60 61 (.faddr 1 k2),oT 60 62 (.load true 1 k61),
 oT 60 63 (.mov k8),oT 60 64 (kC 29 [k62,k63]),oT 60 65 (.una .not k64),Ym 66 60 65,oM 55 66] (.cond k55 (sQ (.draw [Yd 0 (Yk 67 7) 0 0,Yd 1 (Ya 68 0 2) 0 0,Yd 2 (Yl 69 1 68) 2 0,Yd 3 (oM 70 8) 0 0,Yd 4 (Yc 71 104 [k69,
 k70]) 14 0,Yd 5 (Ya 72 1 2) 0 0,Yd 6 (Yl 73 1 72) 32 0,Yd 7 (oO 74 (.build [nS,nS] [(0,1,k71),(1,1,k73)])) 126 0,Yd 8 (oO 75 (.bslice [nS,nS] 1 [(0,k74)])) 254 0,Yd 9 (oO 76 (.append [nS,nS] 48 k67 k75)) 511 1,
 Yd 10 (Ys 1 7 76) 1023 1]) (Yg [Ya 77 1 2,Yl 78 1 77,oM 79 8,Yc 80 104 [k78,k79],Ya 81 1 2,Ys 1 81 80])) .skip))))))))) (Yr [Yk 82 7,oM 4 82] .ret))))))
theorem ok168:Y4 168 83 ir168 [.tmp 4]:=Yf Tryz.func168 Tryz.ntmps168
def ir169:X4:=(Yr [Yj 4 kF] (Yr [oM 5 0,oM 6 1,Yc 7 196 [k5,k6],Yo 8 .geq k7 q0,oM 4 8] .ret))
theorem ok169:Y4 169 9 ir169 [.tmp 4]:=Yf Tryz.func169 Tryz.ntmps169
def ir170:X4:=(Yr [Yb 2 0,Yj 3 kF] (Yr [Yk 4 1,Yl 5 2 2,oO 6 (.call k4 [k5]),Yh 7 6,oM 3 7] .ret))
theorem ok170:Y4 170 8 ir170 [.tmp 3]:=Yf Tryz.func170 Tryz.ntmps170
def ir171:X4:=(Yr [Yb 2 0,Yj 3 kF] (Yr [Yk 4 1,Yl 5 2 2,oO 6 (.call k4 [k5]),Yh 7 6,oM 3 7] .ret))
theorem ok171:Y4 171 8 ir171 [.tmp 3]:=Yf Tryz.func171 Tryz.ntmps171
def ir172:X4:=(Yr [oM 4 0,Yn 5 4,Yo 6 .sub k5 q1,Yj 2 q0,oM 3 6] (.block 0 (.loop (sQ (Yr [oM 7 2,oM 8 3,Yo 9 .lss k7 k8] (.cond k9 .skip (.exit 0))) (sQ (.block 1 (.draw [Yd 0 (oM 14 0) 0 0,Yd 1 (oM 15 2) 0 0,
 Yd 2 (oM 16 0) 0 0,Yd 3 (oM 17 3) 0 0,Yd 4 (oM 18 0) 0 0,Yd 5 (oM 19 3) 0 0,Yd 6 (Yi 20 1 18 19) 48 0,Yd 7 (Yk 21 20) 112 0,Yd 8 (oM 22 0) 0 0,Yd 9 (oM 23 2) 0 0,Yd 10 (Yi 24 1 22 23) 768 0,Yd 11 (Yk 25 24) 1792 0,
 Yd 12 (Yi 26 1 14 15) 4083 1,Yd 13 (Ys 1 26 21) 8179 1,Yd 14 (Yi 27 1 16 17) 16383 1,Yd 15 (Ys 1 27 25) 32767 1])) (Yg [oM 10 2,Yo 11 .add k10 q1,oM 12 3,Yo 13 .sub k12 q1,oM 2 11,oM 3 13]))))))
theorem ok172:Y4 172 28 ir172 []:=Yf Tryz.func172 Tryz.ntmps172
def ir173:X4:=(Yr [Yb 1 0,Yj 2 q0,Yj 3 kF] (sQ (Yr [Yl 5 1 1,Yc 6 32 [k5]] (.cond k6 (Yr [Yj 2 q0,Yj 3 kF] .ret) .skip)) (Yr [Ya 7 0 1,Yk 8 7,Yn 9 8,Yo 10 .sub k9 q1,oM 4 10] (Yr [oM 11 4,Yo 12 .mul q64 k11,
 Ya 13 0 1,Yk 14 13,oM 15 4,Yi 16 1 14 15,Yk 17 16,Yc 18 186 [k17],Yo 19 .add k12 k18,Yo 20 .sub k19 q1,oM 2 20,Yj 3 kT] .ret))))
theorem ok173:Y4 173 21 ir173 [.tmp 2,.tmp 3]:=Yf Tryz.func173 Tryz.ntmps173
def ir174:X4:=(Yr [oO 0 (.mov (.const nP))] (Yr [oO 1 (.build [(.int .u64 0),(.int .u64 0),(.int .u64 0),(.int .u64 0),(.int .u64 0),(.int .u64 0),(.int .u64 0),(.int .u64 0),(.int .u64 0),(.int .u64 0),
 (.int .u64 0),(.int .u64 0),(.int .u64 0),(.int .u64 0),(.int .u64 0),(.int .u64 0),(.int .u64 0),(.int .u64 0),(.int .u64 0),(.int .u64 0),(.int .u64 0),(.int .u64 0),(.int .u64 0),(.int .u64 0),(.int .u64 0),
 Yu,Yu,Yu,Yu,Yu,Yu,Yu,Yu,Yu,Yu,Yu,Yu,Yu,Yu,Yu,Yu,Yu,Yu,Yu,Yu,Yu,Yu,Yu,Yu,Yu,Yu,Yu,Yu,Yu,Yu,Yu,Yu,Yu,Yu,Yu,Yu,Yu,Yu,Yu,Yu,Yu,Yu,Yu,Yu,Yu,Yu,Yu,Yu,Yu,Yu,Yu,Yu,Yu,Yu,Yu,Yu,Yu,Yu,Yu,Yu,Yu,Yu,Yu,Yu,Yu,Yu,Yu,
 Yu,Yu,Yu,Yu,Yu,Yu,Yu,Yu,Yu,Yu,Yu,Yu,Yu,Yu,Yu,Yu,Yu,Yu,Yu,Yu,Yu,Yu,Yu,Yu,Yu,Yu,Yu,Yu,Yu,Yu,Yu,Yu,Yu,Yu,Yu,Yu,Yu,Yu,Yu,Yu,Yu,Yu,Yu,Yu,Yu,Yu,Yu,Yu,Yu,Yu,Yu,Yu,Yu,Yu,Yu,Yu,Yu,Yu,Yu,Yu,Yu,Yu,Yu,Yu,Yu,Yu,Yu,
 Yu,Yu,z0,(.int .u64 0)] []),Yb 2 1,oM 0 2] .ret))
theorem ok174:Y4 174 3 ir174 [.tmp 0]:=Yf Tryz.func174 Tryz.ntmps174
def ir175:X4:=(sQ (Yr [oM 5 0,oO 6 (.bin .eql .ptr k5 (.const nP))] (.cond k6 .ret .skip)) (Yr [oM 7 0,oO 8 (.nilck k7),Ya 9 162 8,Yk 10 9,oM 11 1,Yn 12 11,oO 13 (.conv .u64 k12),Yo 14 .add k10 k13,
 oO 15 (.nilck k7),Ya 16 162 15,Ys 1 16 14] (.block 0 (.loop (sQ (Yr [oM 17 1,Yn 18 17,Yo 19 .gtr k18 q0] (.cond k19 .skip (.exit 0))) (.block 1 (sQ (.draw [Yd 0 (oM 20 0) 0 0,Yd 1 (oO 21 (.nilck k20)) 1 0,
 Yd 2 (Ya 22 25 21) 3 0,Yd 3 (oM 23 0) 0 1,Yd 4 (oO 24 (.nilck k23)) 8 1,Yd 5 (Ya 25 161 24) 24 1,Yd 6 (Yk 26 25) 56 1,Yd 7 (oO 27 (.slcA 136 k22 (some k26) none)) 127 1,Yd 8 (oM 28 1) 0 0,Yd 9 (oO 29 (.copy 1 k27 k28)) 511 1,
 Yd 10 (oM 4 29) 1023 1]) (Yr [oM 30 1,oM 31 4,oO 32 (.slc 1 k30 (some k31) none none),oM 1 32] (Yr [oM 33 0,oO 34 (.nilck k33),Ya 35 161 34,Yk 36 35,oM 37 4,Yo 38 .add k36 k37,oO 39 (.nilck k33),Ya 40 161 39,
 Ys 1 40 38] (Yr [oM 41 0,oO 42 (.nilck k41),Ya 43 161 42,Yk 44 43,Yo 45 .eql k44 (kI 136)] (.cond k45 (sQ (.draw [Yd 0 (oM 46 0) 0 1,Yd 1 (oO 47 (.nilck k46)) 1 1,Yd 2 (Ya 48 0 47) 3 1,Yd 3 (oM 49 0) 0 1,
 Yd 4 (oO 50 (.nilck k49)) 8 1,Yd 5 (Ya 51 25 50) 24 1,Yd 6 (oO 52 (.slcA 136 k51 none none)) 56 1,Yd 7 (Yc 53 197 [k48,k52]) 127 1]) (Yg [oM 54 0,oO 55 (.nilck k54),Ya 56 161 55,⟨none,.store 1 k56 q0,none⟩])) .skip)))))))))))
theorem ok175:Y4 175 57 ir175 []:=Yf Tryz.func175 Tryz.ntmps175
def ir176:X4:=(Yr [Yz 2 Y1] (sQ (Yr [oM 7 0,oO 8 (.bin .eql .ptr k7 (.const nP))] (.cond k8 (Yr [oO 9 (.build Y1 []),Ys 32 2 9] .ret) .skip)) (Yr [oM 10 0,oO 11 (.nilck k10),Ya 12 0 11,Yl 13 25 12,oO 3 (.alloc [(.int .u64 0),
 (.int .u64 0),(.int .u64 0),(.int .u64 0),(.int .u64 0),(.int .u64 0),(.int .u64 0),(.int .u64 0),(.int .u64 0),(.int .u64 0),(.int .u64 0),(.int .u64 0),(.int .u64 0),(.int .u64 0),(.int .u64 0),(.int .u64 0),
 (.int .u64 0),(.int .u64 0),(.int .u64 0),(.int .u64 0),(.int .u64 0),(.int .u64 0),(.int .u64 0),(.int .u64 0),(.int .u64 0)]),Ys 25 3 13] (Yr [Yz 4 [Yu,Yu,Yu,Yu,Yu,Yu,Yu,Yu,Yu,Yu,Yu,Yu,Yu,Yu,Yu,Yu,Yu,
 Yu,Yu,Yu,Yu,Yu,Yu,Yu,Yu,Yu,Yu,Yu,Yu,Yu,Yu,Yu,Yu,Yu,Yu,Yu,Yu,Yu,Yu,Yu,Yu,Yu,Yu,Yu,Yu,Yu,Yu,Yu,Yu,Yu,Yu,Yu,Yu,Yu,Yu,Yu,Yu,Yu,Yu,Yu,Yu,Yu,Yu,Yu,Yu,Yu,Yu,Yu,Yu,Yu,Yu,Yu,Yu,Yu,Yu,Yu,Yu,Yu,Yu,Yu,Yu,Yu,Yu,Yu,
 Yu,Yu,Yu,Yu,Yu,Yu,Yu,Yu,Yu,Yu,Yu,Yu,Yu,Yu,Yu,Yu,Yu,Yu,Yu,Yu,Yu,Yu,Yu,Yu,Yu,Yu,Yu,Yu,Yu,Yu,Yu,Yu,Yu,Yu,Yu,Yu,Yu,Yu,Yu,Yu,Yu,Yu,Yu,Yu,Yu,Yu,Yu,Yu,Yu,Yu,Yu,Yu]] (sQ (.draw [Yd 0 (oO 14 (.slcA 136 k4 none none)) 0 0,
 Yd 1 (oM 15 0) 0 0,Yd 2 (oO 16 (.nilck k15)) 2 0,Yd 3 (Ya 17 25 16) 6 0,Yd 4 (oM 18 0) 0 1,Yd 5 (oO 19 (.nilck k18)) 16 1,Yd 6 (Ya 20 161 19) 48 1,Yd 7 (Yk 21 20) 112 1,Yd 8 (oO 22 (.slcA 136 k17 none (some k21))) 254 1,
 Yd 9 (oO 23 (.copy 1 k14 k22)) 511 1]) (Yr [oM 24 0,oO 25 (.nilck k24),Ya 26 161 25,Yk 27 26,oO 28 (.iaddrA 136 1 k4 k27),⟨none,.store 1 k28 (kB 6),none⟩] (Yr [oO 29 (.iaddrA 136 1 k4 (kI 135)),Yk 30 29,
 Yo 31 .xor k30 (kB 128),oO 32 (.iaddrA 136 1 k4 (kI 135)),Ys 1 32 31] (Yr [oO 33 (.slcA 136 k4 none none),Yc 34 197 [k3,k33]] (Yr [Yz 5 Y1] (sQ (Yr [Yj 35 q0] (.block 0 (.loop (Yr [Yo 36 .lss k35 q32] (sQ (.cond k36 .skip (.exit 0)) (sQ (.block 1 (Yr [oM 37 35,
 oM 6 37] (Yg [oM 38 6,oM 39 6,Yo 40 .quo k39 q8,oO 41 (.iaddrA 25 1 k3 k40),Yk 42 41,oM 43 6,Yo 44 .rem k43 q8,Yo 45 .mul q8 k44,Yo 46 .shr k42 k45,oO 47 (.conv .u8 k46),oO 48 (.iaddrA 32 1 k5 k38),Ys 1 48 47]))) (Yg [Yo 49 .add k35 q1,
 oM 35 49]))))))) (Yr [Yl 50 32 5,Ys 32 2 50] .ret)))))))))))
theorem ok176:Y4 176 51 ir176 [.cell 2 true 32]:=Yf Tryz.func176 Tryz.ntmps176
set_option maxRecDepth 100000
def ir186:X4:=(Yr [Yj 2 q0] (sQ (Yr [oM 3 0,Yo 4 .geq k3 (kW 4294967296)] (.cond k4 (Yr [oM 5 0,Yo 6 .shr k5 (kW 32),oM 0 6] (Yg [Yj 2 q32])) .skip)) (sQ (Yr [oM 7 0,Yo 8 .geq k7 (kW 65536)] (.cond k8 (Yr [oM 9 0,
 Yo 10 .shr k9 (kW 16),oM 0 10] (Yg [oM 11 2,Yo 12 .add k11 q16,oM 2 12])) .skip)) (sQ (Yr [oM 13 0,Yo 14 .geq k13 (kW 256)] (.cond k14 (Yr [oM 15 0,Yo 16 .shr k15 (kW 8),oM 0 16] (Yg [oM 17 2,Yo 18 .add k17 q8,
 oM 2 18])) .skip)) (Yr [oM 19 2,oM 20 0,oO 21 (.conv .u8 k20),⟨(some 22),.indexS (.const (.string ⟨#[0,1,2,2,3,3,3,3,4,4,4,4,4,4,4,4,5,5,5,5,5,5,5,5,5,5,5,5,5,5,5,5,6,6,6,6,6,6,6,6,6,6,6,6,6,6,6,6,6,6,
 6,6,6,6,6,6,6,6,6,6,6,6,6,6,7,7,7,7,7,7,7,7,7,7,7,7,7,7,7,7,7,7,7,7,7,7,7,7,7,7,7,7,7,7,7,7,7,7,7,7,7,7,7,7,7,7,7,7,7,7,7,7,7,7,7,7,7,7,7,7,7,7,7,7,7,7,7,7,8,8,8,8,8,8,8,8,8,8,8,8,8,8,8,8,8,8,8,8,8,8,8,
 8,8,8,8,8,8,8,8,8,8,8,8,8,8,8,8,8,8,8,8,8,8,8,8,8,8,8,8,8,8,8,8,8,8,8,8,8,8,8,8,8,8,8,8,8,8,8,8,8,8,8,8,8,8,8,8,8,8,8,8,8,8,8,8,8,8,8,8,8,8,8,8,8,8,8,8,8,8,8,8,8,8,8,8,8,8,8,8,8,8,8,8,8,8,8,8,8,8,8,8,8,
 8,8,8,8]⟩)) k21,none⟩,oO 23 (.conv .i64 k22),Yo 24 .add k19 k23,oM 2 24] .ret)))))
theorem ok186:Y4 186 25 ir186 [.tmp 2]:=Yf Tryz.func186 Tryz.ntmps186
def ir187:X4:=(Yr [Yb 3 1,Yj 4 q0] (sQ (Yr [oM 6 0,Yn 7 6,Yj 8 q0] (.block 0 (.loop (Yr [Yo 9 .lss k8 k7] (sQ (.cond k9 .skip (.exit 0)) (sQ (.block 1 (Yr [oM 10 8,oM 5 10] (sQ (.draw [Yd 0 (Yl 11 2 3) 0 0,
 Yd 1 (oM 12 0) 0 0,Yd 2 (oM 13 5) 0 0,Yd 3 (Yi 14 2 12 13) 6 0,Yd 4 (Yl 15 2 14) 14 0,Yd 5 (oO 16 (.bin .eql (.cells [0,0]) k11 k15)) 31 1]) (.cond k16 (Yr [oM 17 5,oM 4 17] .ret) .skip)))) (Yg [Yo 18 .add k8 q1,
 oM 8 18]))))))) (Yr [oO 4 (.mov (.const (.int .i64 (-1))))] .ret)))
theorem ok187:Y4 187 19 ir187 [.tmp 4]:=Yf Tryz.func187 Tryz.ntmps187
def ir188:X4:=(Yr [oO 2 (.mov (.const nS))] (sQ (Yr [oM 3 0,oO 4 (.isnil false k3)] (.cond k4 (Yr [oO 2 (.mov (.const nS))] .ret) .skip)) (Yr [oO 5 (.bslice [z0,z0] 0 []),oM 6 0,oO 7 (.append [z0,z0] 16 k5 k6),
 oM 2 7] .ret)))
theorem ok188:Y4 188 8 ir188 [.tmp 2]:=Yf Tryz.func188 Tryz.ntmps188
def ir189:X4:=(Yr [oO 2 (.mov (.const nS))] (Yr [oM 10 0,Yc 11 63 [k10],oM 3 11] (Yr [oM 12 3,Yc 13 203 [k12,(.func 204)]] (Yr [oM 14 3,Yc 15 205 [k14,(.func 37)],oM 3 15] (Yr [oO 4 (.mov (.const nS))] (sQ (Yr [oM 16 3,
 Yn 17 16,Yj 18 q0] (.block 0 (.loop (Yr [Yo 19 .lss k18 k17] (sQ (.cond k19 .skip (.exit 0)) (sQ (.block 1 (Yr [oM 20 18,Yi 21 2 16 18,Yl 22 2 21,Yz 6 [nS,nS],oM 5 20,Ys 2 6 22] (Yr [Yl 23 2 6,Yc 24 67 [k23],
 oM 7 24] (sQ (Yr [oM 25 3,Yn 26 25,Yj 27 q0] (.block 2 (.loop (Yr [Yo 28 .lss k27 k26] (sQ (.cond k28 .skip (.exit 2)) (sQ (.block 3 (Yr [oM 29 27,Yi 30 2 25 27,Yl 31 2 30,Yz 9 [nS,nS],oM 8 29,Ys 2 9 31] (Yg [oM 32 7,
 oM 33 32,oF 33 34 (.mov k8),oF 33 35 (.mov k5),oF 33 36 (.bin .neq .num k34 k35),oF 33 37 (.mov k36),oT 37 38 (.load true 2 k9),oT 37 39 (kC 67 [k38]),oT 37 40 (.una .not k39),oF 33 41 (.pick k37 k40 kF),
 oF 33 42 (.mov k41),oT 42 43 (.load true 2 k6),oT 42 44 (.load true 2 k9),oT 42 45 (kC 206 [k43,k44]),oF 33 46 (.pick k42 k45 kF),Yq 47 33 46,oM 7 47]))) (Yg [Yo 48 .add k27 q1,oM 27 48]))))))) (Yr [oM 49 7,
 Yh 50 49] (.cond k50 (Yg [oM 51 4,Yl 52 2 6,oO 53 (.bslice [nS,nS] 1 [(0,k52)]),oO 54 (.append [nS,nS] 48 k51 k53),oM 4 54]) .skip)))))) (Yg [Yo 55 .add k18 q1,oM 18 55]))))))) (Yr [oM 56 4,oM 2 56] .ret)))))))
theorem ok189:Y4 189 57 ir189 [.tmp 2]:=Yf Tryz.func189 Tryz.ntmps189
def ir190:X4:=(Yr [Yb 2 0,Yb 3 1,Yz 4 [nS,nS]] (sQ (.draw [Yd 0 (Ya 5 0 2) 0 0,Yd 1 (Yl 6 1 5) 1 0,Yd 2 (Ya 7 0 3) 0 0,Yd 3 (Yl 8 1 7) 4 0,Yd 4 (Yc 9 70 [k6,k8]) 15 0,Yd 5 (Ya 10 1 2) 0 0,Yd 6 (Yl 11 1 10) 32 0,
 Yd 7 (Ya 12 1 3) 0 0,Yd 8 (Yl 13 1 12) 128 0,Yd 9 (Yc 14 70 [k11,k13]) 511 1,Yd 10 (oO 15 (.build [nS,nS] [(0,1,k9),(1,1,k14)])) 1023 1,Yd 11 (Ys 2 4 15) 2047 1]) .ret))
theorem ok190:Y4 190 16 ir190 [.cell 4 true 2]:=Yf Tryz.func190 Tryz.ntmps190
def ir191:X4:=(Yr [Yb 2 0,Yb 3 1,Yz 4 [nS,nS],Yj 5 kF] (Yr [Yl 7 2 2,Yl 8 2 3,Yc 9 190 [k7,k8],Yz 6 [nS,nS],Ys 2 6 9] (sQ (Yr [Yl 10 2 6,Yc 11 67 [k10]] (.cond k11 (Yr [oO 12 (.build [nS,nS] []),Ys 2 4 12,
 Yj 5 kF] .ret) .skip)) (Yr [Yl 13 2 6,Ys 2 4 13,Yj 5 kT] .ret))))
theorem ok191:Y4 191 14 ir191 [.cell 4 true 2,.tmp 5]:=Yf Tryz.func191 Tryz.ntmps191
def ir195:X4:=(Yr [Yb 2 0,Yj 4 kF] (Yr [Yl 8 1 2,Yc 9 173 [k8],oM 7 9,Yx 10 7 0,Yx 11 7 1,oM 5 10,oM 6 11] (Yr [oM 12 6,oM 13 12,oT 13 14 (.mov k5),oT 13 15 (.mov k1),oT 13 16 (.bin .gtr .num k14 k15),
 Ym 17 13 16,oM 4 17] .ret)))
theorem ok195:Y4 195 18 ir195 [.tmp 4]:=Yf Tryz.func195 Tryz.ntmps195
def ir196:X4:=(Yr [Yj 4 q0] (sQ (Yr [oM 6 0,Yn 7 6,Yj 8 q0] (.block 0 (.loop (Yr [Yo 9 .lss k8 k7] (sQ (.cond k9 .skip (.exit 0)) (sQ (.block 1 (Yr [oM 10 8,oM 5 10] (Yr [oM 11 1,oM 12 0,oM 13 5,Yi 14 2 12 13,
 Yl 15 2 14,oO 16 (.call k11 [k15])] (.cond k16 (Yr [oM 17 5,oM 4 17] .ret) .skip)))) (Yg [Yo 18 .add k8 q1,oM 8 18]))))))) (Yr [oO 4 (.mov (.const (.int .i64 (-1))))] .ret)))
theorem ok196:Y4 196 19 ir196 [.tmp 4]:=Yf Tryz.func196 Tryz.ntmps196
def ir197:X4:=(sQ (Yr [Yj 7 q0] (.block 0 (.loop (Yr [Yo 8 .lss k7 q17] (sQ (.cond k8 .skip (.exit 0)) (sQ (.block 1 (Yr [oM 9 7,oM 4 9] (Yr [Yj 5 (kW 0)] (sQ (Yr [Yj 6 q7] (.block 2 (.loop (sQ (Yr [oM 10 6,
 Yo 11 .geq k10 q0] (.cond k11 .skip (.exit 2))) (sQ (.block 3 (Yg [oM 14 5,Yo 15 .shl k14 (kW 8),oM 16 1,oM 17 4,Yo 18 .mul q8 k17,oM 19 6,Yo 20 .add k18 k19,Yi 21 1 16 20,Yk 22 21,oO 23 (.conv .u64 k22),
 Yo 24 .or k15 k23,oM 5 24])) (Yg [oM 12 6,Yo 13 .sub k12 q1,oM 6 13])))))) (.draw [Yd 0 (oM 25 0) 0 1,Yd 1 (oM 26 4) 0 1,Yd 2 (oO 27 (.nilck k25)) 1 1,Yd 3 (oO 28 (.iaddrA 25 1 k27 k26)) 7 1,Yd 4 (Yk 29 28) 15 1,
 Yd 5 (oM 30 5) 0 0,Yd 6 (Yo 31 .xor k29 k30) 63 1,Yd 7 (oO 32 (.nilck k25)) 1 0,Yd 8 (oO 33 (.iaddrA 25 1 k32 k26)) 255 1,Yd 9 (Ys 1 33 31) 511 1]))))) (Yg [Yo 34 .add k7 q1,oM 7 34]))))))) (Yg [oM 35 0,
 Yc 36 216 [k35]]))
theorem ok197:Y4 197 37 ir197 []:=Yf Tryz.func197 Tryz.ntmps197
def ir204:X4:=(Yr [Yb 2 0,Yb 3 1,Yj 4 q0] (sQ (Yr [Ya 6 0 2,Yl 7 1 6,Ya 8 0 3,Yl 9 1 8,Yc 10 167 [k7,k9],oM 5 10] (Yr [oM 11 5,Yo 12 .neq k11 q0] (.cond k12 (Yr [oM 13 5,oM 4 13] .ret) .skip))) (Yr [Ya 14 1 2,
 Yl 15 1 14,Ya 16 1 3,Yl 17 1 16,Yc 18 167 [k15,k17],oM 4 18] .ret)))
theorem ok204:Y4 204 19 ir204 [.tmp 4]:=Yf Tryz.func204 Tryz.ntmps204
def ir205:X4:=(Yr [oO 4 (.mov (.const nS))] (sQ (Yr [oM 8 0,Yn 9 8,Yo 10 .lss k9 q2] (.cond k10 (Yr [oM 11 0,oM 4 11] .ret) .skip)) (sQ (Yr [Yj 5 q1] (.block 0 (.loop (sQ (Yr [oM 12 5,oM 13 0,Yn 14 13,
 Yo 15 .lss k12 k14] (.cond k15 .skip (.exit 0))) (sQ (.block 1 (sQ (.draw [Yd 0 (oM 18 1) 0 0,Yd 1 (oM 19 0) 0 0,Yd 2 (oM 20 5) 0 0,Yd 3 (Yi 21 2 19 20) 6 0,Yd 4 (Yl 22 2 21) 14 0,Yd 5 (oM 23 0) 0 0,Yd 6 (oM 24 5) 0 0,
 Yd 7 (Yo 25 .sub k24 q1) 64 0,Yd 8 (Yi 26 2 23 25) 224 0,Yd 9 (Yl 27 2 26) 480 0,Yd 10 (oO 28 (.call k18 [k22,k27])) 1023 1]) (.cond k28 (Yr [oM 29 0,oM 30 5,oO 31 (.slc 2 k29 (some k30) none none),oM 6 31] (sQ (Yr [Yj 7 q1] (.block 2 (.loop (sQ (Yr [oM 32 7,
 oM 33 6,Yn 34 33,Yo 35 .lss k32 k34] (.cond k35 .skip (.exit 2))) (sQ (.block 3 (sQ (.draw [Yd 0 (oM 38 1) 0 0,Yd 1 (oM 39 6) 0 0,Yd 2 (oM 40 7) 0 0,Yd 3 (Yi 41 2 39 40) 6 0,Yd 4 (Yl 42 2 41) 14 0,Yd 5 (oM 43 6) 0 0,
 Yd 6 (oM 44 7) 0 0,Yd 7 (Yo 45 .sub k44 q1) 64 0,Yd 8 (Yi 46 2 43 45) 224 0,Yd 9 (Yl 47 2 46) 480 0,Yd 10 (oO 48 (.call k38 [k42,k47])) 1023 1,Yd 11 (Yh 49 48) 2047 1]) (.cond k49 (Yr [oM 50 0,oM 51 5,
 oM 52 6,oM 53 7,Yi 54 2 52 53,Yl 55 2 54,Yi 56 2 50 51,Ys 2 56 55] (Yg [oM 57 5,Yo 58 .add k57 q1,oM 5 58])) .skip))) (Yg [oM 36 7,Yo 37 .add k36 q1,oM 7 37])))))) (Yr [oM 59 0,oM 60 5,oO 61 (.slc 2 k59 (some k60) none none),
 ⟨none,.clear [nS,nS] k61,none⟩] (Yr [oM 62 0,oM 63 5,oO 64 (.slc 2 k62 none (some k63) none),oM 4 64] .ret)))) .skip))) (Yg [oM 16 5,Yo 17 .add k16 q1,oM 5 17])))))) (Yr [oM 65 0,oM 4 65] .ret))))
theorem ok205:Y4 205 66 ir205 [.tmp 4]:=Yf Tryz.func205 Tryz.ntmps205
def ir206:X4:=(Yr [Yb 2 0,Yb 3 1,Yj 4 kF] (Yr [Yl 5 2 2,Yc 6 67 [k5],oM 7 6,oF 7 8 (.faddr 0 k3),oF 7 9 (.load true 1 k8),oF 7 10 (.faddr 0 k2),oF 7 11 (.load true 1 k10),oF 7 12 (kC 90 [k9,k11]),oF 7 13 (.mov k12),
 oT 13 14 (.faddr 1 k3),oT 13 15 (.load true 1 k14),oT 13 16 (.faddr 1 k2),oT 13 17 (.load true 1 k16),oT 13 18 (kC 90 [k15,k17]),oF 7 19 (.pick k13 k18 kF),Yq 20 7 19,oM 4 20] .ret))
theorem ok206:Y4 206 21 ir206 [.tmp 4]:=Yf Tryz.func206 Tryz.ntmps206
def ir216:X4:=(Yr [oO 12 (.load true 24 (.global 1)),Yj 13 q0] (.block 0 (.loop (Yr [Yo 14 .lss k13 q24] (sQ (.cond k14 .skip (.exit 0)) (sQ (.block 1 (Yr [oO 15 (.indexA false 24 1 k12 k13),oM 3 15] (Yr [oO 4 (.alloc [(.int .u64 0),
 (.int .u64 0),(.int .u64 0),(.int .u64 0),(.int .u64 0)])] (sQ (Yr [Yj 16 q0] (.block 2 (.loop (Yr [Yo 17 .lss k16 q5] (sQ (.cond k17 .skip (.exit 2)) (sQ (.block 3 (Yr [oM 18 16,oM 5 18] (.draw [Yd 0 (oM 19 5) 0 0,
 Yd 1 (oM 20 0) 0 0,Yd 2 (oM 21 5) 0 0,Yd 3 (oO 22 (.nilck k20)) 2 0,Yd 4 (oO 23 (.iaddrA 25 1 k22 k21)) 14 0,Yd 5 (Yk 24 23) 30 0,Yd 6 (oM 25 0) 0 0,Yd 7 (oM 26 5) 0 0,Yd 8 (Yo 27 .add k26 q5) 128 0,Yd 9 (oO 28 (.nilck k25)) 64 0,
 Yd 10 (oO 29 (.iaddrA 25 1 k28 k27)) 960 0,Yd 11 (Yk 30 29) 1984 0,Yd 12 (Yo 31 .xor k24 k30) 4094 0,Yd 13 (oM 32 0) 0 0,Yd 14 (oM 33 5) 0 0,Yd 15 (Yo 34 .add k33 q10) 16384 0,Yd 16 (oO 35 (.nilck k32)) 8192 0,
 Yd 17 (oO 36 (.iaddrA 25 1 k35 k34)) 122880 0,Yd 18 (Yk 37 36) 253952 0,Yd 19 (Yo 38 .xor k31 k37) 524286 0,Yd 20 (oM 39 0) 0 0,Yd 21 (oM 40 5) 0 0,Yd 22 (Yo 41 .add k40 q15) 2097152 0,Yd 23 (oO 42 (.nilck k39)) 1048576 0,
 Yd 24 (oO 43 (.iaddrA 25 1 k42 k41)) 15728640 0,Yd 25 (Yk 44 43) 32505856 0,Yd 26 (Yo 45 .xor k38 k44) 67108862 0,Yd 27 (oM 46 0) 0 0,Yd 28 (oM 47 5) 0 0,Yd 29 (Yo 48 .add k47 q20) 268435456 0,Yd 30 (oO 49 (.nilck k46)) 134217728 0,
 Yd 31 (oO 50 (.iaddrA 25 1 k49 k48)) 2013265920 0,Yd 32 (Yk 51 50) 4160749568 0,Yd 33 (Yo 52 .xor k45 k51) 8589934590 1,Yd 34 (oO 53 (.iaddrA 5 1 k4 k19)) 17179869183 1,Yd 35 (Ys 1 53 52) 34359738367 1]))) (Yg [Yo 54 .add k16 q1,
 oM 16 54]))))))) (Yr [oO 6 (.alloc [(.int .u64 0),(.int .u64 0),(.int .u64 0),(.int .u64 0),(.int .u64 0),(.int .u64 0),(.int .u64 0),(.int .u64 0),(.int .u64 0),(.int .u64 0),(.int .u64 0),(.int .u64 0),
 (.int .u64 0),(.int .u64 0),(.int .u64 0),(.int .u64 0),(.int .u64 0),(.int .u64 0),(.int .u64 0),(.int .u64 0),(.int .u64 0),(.int .u64 0),(.int .u64 0),(.int .u64 0),(.int .u64 0)])] (sQ (Yr [Yj 55 q0] (.block 4 (.loop (Yr [Yo 56 .lss k55 q5] (sQ (.cond k56 .skip (.exit 4)) (sQ (.block 5 (Yr [oM 57 55,
 oM 7 57] (sQ (.draw [Yd 0 (oM 58 7) 0 0,Yd 1 (Yo 59 .add k58 q4) 1 0,Yd 2 (Yo 60 .rem k59 q5) 3 0,Yd 3 (oO 61 (.iaddrA 5 1 k4 k60)) 7 0,Yd 4 (Yk 62 61) 15 0,Yd 5 (oM 63 7) 0 0,Yd 6 (Yo 64 .add k63 q1) 32 0,
 Yd 7 (Yo 65 .rem k64 q5) 96 0,Yd 8 (oO 66 (.iaddrA 5 1 k4 k65)) 224 0,Yd 9 (Yk 67 66) 480 0,Yd 10 (Yc 68 222 [k67,q1]) 992 0,Yd 11 (Yo 69 .xor k62 k68) 2047 1,Yd 12 (oM 8 69) 4095 1]) (Yr [Yj 70 q0] (.block 6 (.loop (Yr [Yo 71 .lss k70 q5] (sQ (.cond k71 .skip (.exit 6)) (sQ (.block 7 (Yr [oM 72 70,
 oM 9 72] (.draw [Yd 0 (oM 73 9) 0 0,Yd 1 (oM 74 7) 0 0,Yd 2 (Yo 75 .mul q2 k74) 2 0,Yd 3 (oM 76 9) 0 0,Yd 4 (Yo 77 .mul q3 k76) 8 0,Yd 5 (Yo 78 .add k75 k77) 30 0,Yd 6 (Yo 79 .rem k78 q5) 62 0,Yd 7 (Yo 80 .mul q5 k79) 126 0,
 Yd 8 (Yo 81 .add k73 k80) 255 0,Yd 9 (oM 82 0) 0 0,Yd 10 (oM 83 7) 0 0,Yd 11 (oM 84 9) 0 0,Yd 12 (Yo 85 .mul q5 k84) 2048 0,Yd 13 (Yo 86 .add k83 k85) 7168 0,Yd 14 (oO 87 (.nilck k82)) 512 0,Yd 15 (oO 88 (.iaddrA 25 1 k87 k86)) 32256 0,
 Yd 16 (Yk 89 88) 65024 0,Yd 17 (oM 90 8) 0 0,Yd 18 (Yo 91 .xor k89 k90) 261632 0,Yd 19 (oM 92 7) 0 0,Yd 20 (oM 93 9) 0 0,Yd 21 (Yo 94 .mul q5 k93) 1048576 0,Yd 22 (Yo 95 .add k92 k94) 3670016 0,Yd 23 (oO 96 (.iaddrA 25 1 (.global 2) k95)) 7864320 0,
 Yd 24 (Yk 97 96) 16252928 0,Yd 25 (Yc 98 222 [k91,k97]) 33553920 1,Yd 26 (oO 99 (.iaddrA 25 1 k6 k81)) 67108863 1,Yd 27 (Ys 1 99 98) 134217727 1]))) (Yg [Yo 100 .add k70 q1,oM 70 100])))))))))) (Yg [Yo 101 .add k55 q1,
 oM 55 101]))))))) (sQ (Yr [Yj 10 q0] (.block 8 (.loop (sQ (Yr [oM 102 10,Yo 103 .lss X6d q25] (.cond X6t .skip (.exit 8))) (sQ (.block 9 (Yr [Yj 106 q0] (.block 10 (.loop (Yr [Yo 107 .lss X6o q5] (sQ (.cond X7j .skip (.exit 10)) (sQ (.block 11 (Yr [oM 108 106,
 oM 11 108] (.draw [Yd 0 (oM 109 0) 0 0,Yd 1 (oM 110 11) 0 0,Yd 2 (oM 111 10) 0 0,Yd 3 (Yo 112 .add X6E X7a) 6 0,Yd 4 (oM 113 11) 0 0,Yd 5 (oM 114 10) 0 0,Yd 6 (Yo 115 .add X6X X6K) 48 0,Yd 7 (oO 116 (.iaddrA 25 1 k6 X6F)) 112 0,
 Yd 8 (Yk 117 116) 240 0,Yd 9 (oM 118 11) 0 0,Yd 10 (Yo 119 .add X7M q1) 512 0,Yd 11 (Yo 120 .rem X76 q5) 1536 0,Yd 12 (oM 121 10) 0 0,Yd 13 (Yo 122 .add X6I X6N) 7680 0,Yd 14 (oO 123 (.iaddrA 25 1 k6 X6L)) 15872 0,
 Yd 15 (Yk 124 123) 32256 0,Yd 16 (oO 125 (.una .xor X7p)) 65024 0,Yd 17 (oM 126 11) 0 0,Yd 18 (Yo 127 .add X78 q2) 131072 0,Yd 19 (Yo 128 .rem X7X q5) 393216 0,Yd 20 (oM 129 10) 0 0,Yd 21 (Yo 130 .add X7s X7v) 1966080 0,
 Yd 22 (oO 131 (.iaddrA 25 1 k6 X7y)) 4063232 0,Yd 23 (Yk 132 131) 8257536 0,Yd 24 (Yo 133 .and X7f X77) 16776704 0,Yd 25 (Yo 134 .xor X7x X72) 33554416 1,Yd 26 (oO 135 (.nilck X7n)) 1 0,Yd 27 (oO 136 (.iaddrA 25 1 X7g X71)) 134217727 1,
 Yd 28 (Ys 1 136 134) 268435455 1]))) (Yg [Yo 137 .add X6o q1,oM 106 137])))))))) (Yg [oM 104 10,Yo 105 .add X6M q5,oM 10 105])))))) (.draw [Yd 0 (oM 138 0) 0 1,Yd 1 (oO 139 (.nilck X7m)) 1 1,Yd 2 (oO 140 (.iaddrA 25 1 X70 q0)) 3 1,
 Yd 3 (Yk 141 140) 7 1,Yd 4 (oM 142 3) 0 0,Yd 5 (Yo 143 .xor X7i X7q) 31 1,Yd 6 (oO 144 (.nilck X7m)) 1 0,Yd 7 (oO 145 (.iaddrA 25 1 X7k q0)) 127 1,Yd 8 (Ys 1 145 143) 255 1])))))))) (Yg [Yo 146 .add k13 q1,
 oM 13 146])))))))
theorem ok216:Y4 216 147 ir216 []:=Yf Tryz.func216 Tryz.ntmps216
def ir222:X4:=(Yr [Yj 4 (kW 0)] (Yr [oM 6 1,oO 7 (.conv .u64 k6),Yo 8 .and k7 (kW 63),oM 5 8] (Yr [oM 9 0,oM 10 5,Yo 11 .shl k9 k10,oM 12 0,oM 13 5,Yo 14 .sub (kW 64) k13,Yo 15 .shr k12 k14,Yo 16 .or k11 k15,
 oM 4 16] .ret)))
theorem ok222:Y4 222 17 ir222 [.tmp 4]:=Yf Tryz.func222 Tryz.ntmps222
end
section
open Go.RowKit
attribute [local irreducible] aw Xk dK
def XG (l:List Int):List (List PV):=l.map fun x => [.val (.int .i64 x)]
def X5 (l:List Nat):List (List PV):=l.map fun (x:Nat) => [.val (.int .u64 (x:Int))]
def X5v (l:List Nat):PV:=.agg [.vec (X5 l) false]
theorem Z33 {α:Type} (l:List α) (g:α->List PV) (hg:∀ x∈l,X6 (g x)):X2 (l.map g):=by
 refine (Z2g _ _).2 fun p hp=>?_; obtain⟨x,hx,rfl⟩:=Y0i.1 hp; exact hg x hx
theorem Z3L (l:List Nat):(X5v l).pure:=⟨Z33 _ _ fun _ _=>⟨Yt,Yt⟩,Yt⟩
theorem Z4 (l:List Nat):X2 (X5 l):=Z33 _ _ fun _ _=>⟨Yt,Yt⟩
def X3F (l:List Nat) (r:PV):Prop:=∃ k,k<=l.length/\(∀ j,k<=j->l.getD j 0=0)/\(k=0 \/ l.getD (k-1) 0≠0)/\r=X5v (l.take k)
theorem Z8C (k:Nat) (h:k<=9223372036854775807):IntKind.i64.wrap (k:Int)=k:=Y0v _ ⟨by omega,by omega⟩
theorem Z2i (l:List Nat):Xa Tryz.prog 25 [.vec (X5 l) false] (X3F l):=by
 refine Yp ok25 fun C hC=>?_;refine Z4t (k:=0) rfl fun hmax=>?_;have hlm:l.length<=Xd:=by simpa [X5] using hmax
 refine Zq ?_;refine Za ?_;refine go ?_;refine Z49 (fun k=>k<=l.length/\∀ j,k<=j->l.getD j 0=0) id (fun k => [(0,.vec (X5 (l.take k)) false),(2,.ptr 0 0 0)]) l.length ⟨Y0m _,fun j hj=>by simp [Y0b,hj]⟩ ⟨by rw [Y0q]; rfl,rfl,Yt⟩ ?_;rintro k ⟨hk,hzero⟩;have hlen:(X5 (l.take k)).length=k:=by simp [X5,hk]
 have hkm:k<=Xd:=by omega
 (refine go ?_;repeat' (apply B<;>intro hb<;>try cases hb))
 . -- the last word
   have hpos:0<k:=by simpa [hlen] using hb
   have hsub:IntKind.i64.wrap (((X5 (l.take k)).length:Int)-1)=((k-1:Nat):Int):=by
    rw [hlen,show (k:Int)-1=((k-1:Nat):Int) by omega]; exact Z8C _ (by simp only [Xd] at hkm;omega)
   refine Z7H (xs:=l.take k) rfl rfl (k-1) hsub (by simp;omega) rfl rfl ?_;have hget : (l.take k)[k - 1]'(by simp;omega) = l.getD (k - 1) 0 := by
    simp [Y0b,show k-1<l.length by omega]
   rw [hget];(refine go ?_;repeat' (apply B<;>intro hb<;>try cases hb))
   . refine Zh7 (xs := l.take k) rfl 0 (k - 1) rfl (by show some _ = some _; rw [hsub]) (by omega) (by simp; omega) (fun _ => rfl) rfl ?_;(refine go ?_;repeat' (apply B<;>intro hb<;>try cases hb));refine⟨k-1,⟨by omega,fun j hj=>?_⟩,by simp; omega,rfl,rfl,⟨?_,rfl,Yt⟩⟩
     . by_cases hjk : j = k - 1
       . subst hjk; simpa using hb
       . exact hzero j (by omega)
     . show some (PV.vec (X5 (((l.take k).take (k - 1)).drop 0)) false) = _;rw [Y16,Y3x,Y1B (by omega)]
   . refine Z8 rfl (Z3L (l.take k)) ⟨k, hk, hzero, .inr ?_, rfl⟩;intro h0;rw [h0] at hb;simp at hb
 . refine Z8 rfl (Z3L (l.take k)) ⟨k, hk, hzero, .inl ?_, rfl⟩;simpa [hlen] using hb
theorem Z1e (l:List Nat) (k:Nat):Xa Tryz.prog 72 [X5v l,.val (.int .i64 k)] (· = .val (.int .u64 (l.getD k 0:Nat))):=by
 refine Yp ok72 fun C hC=>?_;refine Zq ?_;refine Za ?_;refine Z5 rfl rfl rfl ?_;(refine go ?_;repeat' (apply B<;>intro hb<;>try cases hb))
 . have hk : k < l.length := by simpa [X5] using hb
   refine Z7H (xs:=l) rfl rfl k rfl hk rfl rfl ?_;(refine go ?_;repeat' (apply B<;>intro hb<;>try cases hb));exact Z8 rfl Yt (by simp [Y0b,hk])
 . have hk : l.length <= k := by simpa [X5] using hb
   exact Z8 rfl Yt (by simp [Y0b,hk,X3Z])
def ofW:List Nat->Nat
 | []=>0
 | x :: r=>x+18446744073709551616*ofW r
def X1t (l:List Nat):Prop:=∀ x∈l,x<18446744073709551616
theorem X1t.getD {l:List Nat} (h:X1t l) (k:Nat):l.getD k 0<18446744073709551616:=by
 rw [Y0b];cases hk:l[k]? with
 | none=>simp
 | some x=>exact h x (Y13 hk)
theorem Z2B:∀ {l:List Nat},X1t l->∀ i,(ofW l).testBit i=(l.getD (i / 64) 0).testBit (i % 64)
 | [],_,i=>by simp [ofW]
 | x :: r, h, i => by
   have hx:x<2 ^ 64:=h x (by simp);have hr:X1t r:=fun y hy=>h y (by simp [hy]);have he:ofW (x :: r)=2 ^ 64*ofW r+x:=by simp only [ofW]; omega
   rw [he,Y4C _ hx];by_cases hi:i<64
   . rw [Y5 hi,Y1W hi,Y1m hi]; rfl
   . rw [Y6 hi, Z2B hr];have h1:i / 64=(i-64) / 64+1:=by omega
     have h2:(i-64) % 64=i % 64:=by omega
     rw [h1,h2]
     rfl
theorem Z6d:∀ {l:List Nat},(∀ j,l.getD j 0=0)->ofW l=0
 | [],_=>rfl
 | x :: r, h => by
   have h0:x=0:=h 0;have hr:ofW r=0:=Z6d fun j=>h (j+1);simp [ofW,h0,hr]
theorem Zcw:∀ {l:List Nat} {k:Nat},(∀ j,k<=j->l.getD j 0=0)->ofW (l.take k)=ofW l
 | [],k,_=>by simp
 | x :: r,0,h=>by simp only [Y1A]; exact (Z6d fun j=>h j (Y0l _)).symm
 | x :: r, k + 1, h => by
   simp only [List.take_succ_cons,ofW];rw [Zcw (l:=r) (k:=k) fun j hj=>h (j+1) (by omega)]
def X7 (N:Nat):List Nat:=if h:N=0 then [] else N % 18446744073709551616 :: X7 (N / 18446744073709551616)
termination_by N
decreasing_by omega
theorem ZM:X7 0 = []:=by rw [X7]; simp
theorem Z4b {N:Nat} (h:N≠0):X7 N=N % 18446744073709551616 :: X7 (N / 18446744073709551616):=by rw [X7]; simp [h]
theorem Z34 (N:Nat):X1t (X7 N):=by
 induction N using Nat.strongRecOn with
 | _ N ih =>
   by_cases h:N=0
   . rw [h,ZM]; intro x hx; cases hx
   . rw [Z4b h];intro x hx;rcases Y9.1 hx with rfl|hx
     . omega
     . exact ih _ (by omega) x hx
theorem Z6e (N:Nat):ofW (X7 N)=N:=by
 induction N using Nat.strongRecOn with
 | _ N ih =>
   by_cases h:N=0
   . rw [h,ZM]; rfl
   . rw [Z4b h,ofW,ih _ (by omega)]; omega
def X4c (l:List Nat):Prop:=l.length=0 \/ l.getD (l.length-1) 0≠0
theorem Zcx:∀ {l:List Nat},X1t l->X4c l->X7 (ofW l)=l
 | [],_,_=>by simp [ofW,ZM]
 | x :: r, h, hc => by
   have hx:x<18446744073709551616:=h x (by simp);have hr:X1t r:=fun y hy=>h y (by simp [hy]);have hcr:X4c r:=by
    cases r with
    | nil=>exact .inl rfl
    | cons y s => refine .inr ?_; rcases hc with hc | hc
                  . simp at hc
                  . simpa using hc
   have ih:=Zcx hr hcr;have hne:ofW (x :: r)≠0:=by
    simp only [ofW];cases r with
    | nil => rcases hc with hc | hc
             . simp at hc
             . simp at hc; simp [ofW]; exact hc
    | cons y s =>
      have:ofW (y :: s)≠0:=fun h0=>by rw [h0,ZM] at ih; cases ih
      omega
   have h1:ofW (x :: r) % 18446744073709551616=x:=by simp only [ofW]; omega
   have h2:ofW (x :: r) / 18446744073709551616=ofW r:=by simp only [ofW]; omega
   rw [Z4b hne,h1,h2,ih]
def XH (N:Nat):PV:=X5v (X7 N)
theorem Z2 (N:Nat):(XH N).pure:=Z3L _
theorem Zcy {l:List Nat} (h:X1t l) (hc:X4c l):X5v l=XH (ofW l):=by rw [XH,Zcx h hc]
theorem X3F.set {l:List Nat} (hl:X1t l) {r:PV} (h:X3F l r):r=XH (ofW l):=by
 obtain⟨k,hk,hz,hn,rfl⟩:=h;rw [<- Zcw hz];refine Zcy (fun x hx=>hl x (YM hx)) ?_;rcases hn with rfl|hn
 . exact .inl (by simp)
 . by_cases h0 : k = 0
   . subst h0; exact .inl (by simp)
   . refine .inr ?_;have e:(l.take k).length=k:=by simp [hk]
     rw [e];simpa [Y0b,Y1i,show k-1<k by omega] using hn
theorem Z9G (l:List Nat) (k v:Nat):(X5 l).set k [.val (.int .u64 (v:Int))]=X5 (l.set k v):=by simp [X5,Y4p]
theorem X1t.set {l:List Nat} (h:X1t l) (k:Nat) {v:Nat} (hv:v<18446744073709551616):X1t (l.set k v):=fun x hx=>by
 rcases Y1R hx with hx|rfl
 . exact h x hx
 . exact hv
theorem ZiB {l:List Nat} (h:X1t l) {k j:Nat} (hk:k<l.length) (hj:j<64):ofW (l.set k (l.getD k 0 ||| 2 ^ j))=ofW l ||| 2 ^ (64*k+j):=by
 have hv:l.getD k 0 ||| 2 ^ j<18446744073709551616:=Y2l (n:=64) (h.getD k) (Y1L (by omega) hj)
 refine YF fun i=>?_;rw [Z2B (h.set k hv),Y00,Z2B h,YK];by_cases hik:i / 64=k
 . subst hik;have:(l.set (i / 64) (l.getD (i / 64) 0 ||| 2 ^ j)).getD (i / 64) 0=l.getD (i / 64) 0 ||| 2 ^ j:=by simp [Y0b,hk]
   rw [this,Y00,YK];congr 1;rw [Y3a];omega
 . have : (l.set k (l.getD k 0 ||| 2 ^ j)).getD (i / 64) 0 = l.getD (i / 64) 0 := by
    simp only [Y0b,YW,Y6 (Y25 hik)]
   rw [this];have:¬ (64*k+j=i):=by omega
   simp [this]
def X1q (top:Int) (l:List Int):Nat:=l.foldl (fun acc i=>if 0<=i/\i<=top then acc ||| 2 ^ i.toNat else acc) 0
def X1g (l:List Int):Int:=l.foldl (fun t i=>if i<=4095 then (if i>t then i else t) else t) (-1)
theorem Z7L {l:List Int} {i:Nat} (hi:i<l.length):X1g (l.take (i+1))=if l[i]<=4095 then (if l[i]>X1g (l.take i) then l[i] else X1g (l.take i)) else X1g (l.take i):=by
 simp only [X1g,YY,Y0c hi,Option.toList_some,Y1u,Y19,Y4I]
 rfl
theorem topOf_take' {l:List Int} {i:Nat} (hi:i<l.length) (h:l[i]<=4095):X1g (l.take (i+1))=if l[i]>X1g (l.take i) then l[i] else X1g (l.take i):=by rw [Z7L hi,Y5 h]
theorem Zb2 {l:List Int} {i:Nat} (hi:i<l.length) (h:¬ l[i]<=4095):X1g (l.take (i+1))=X1g (l.take i):=by rw [Z7L hi,Y6 h]
theorem Z6C {t:Int} {l:List Int} {i:Nat} (hi:i<l.length):X1q t (l.take (i+1))=if 0<=l[i]/\l[i]<=t then X1q t (l.take i) ||| 2 ^ l[i].toNat else X1q t (l.take i):=by
 simp only [X1q,YY,Y0c hi,Option.toList_some,Y1u,Y19,Y4I]
theorem Zb3:∀ (l:List Int),-1<=X1g l/\X1g l<=4095:=by
 intro l;have:∀ (l:List Int) (t:Int),-1<=t->t<=4095 -> -1<=l.foldl (fun t i=>if i<=4095 then (if i>t then i else t) else t) t/\l.foldl (fun t i=>if i<=4095 then (if i>t then i else t) else t) t<=4095:=by
  intro l
  induction l with
  | nil=>intro t h1 h2; exact⟨h1,h2⟩
  | cons x r ih =>
    intro t h1 h2;simp only [Y19];refine ih _ ?_ ?_
    . split
      . split<;>omega
      . exact h1
    . split
      . split<;>omega
      . exact h2
 exact this l (-1) (by omega) (by omega)
theorem ZdF {t:Int} {l:List Int} (h:t<0):X1q t l=0:=by
 have:∀ (l:List Int) (a:Nat),l.foldl (fun acc i=>if 0<=i/\i<=t then acc ||| 2 ^ i.toNat else acc) a=a:=by
  intro l
  induction l with
  | nil=>intro a; rfl
  | cons x r ih=>intro a; simp only [Y19]; rw [Y6 (by omega)]; exact ih a
 exact this l 0
theorem ZG (l:List Int):X2 (XG l):=Z33 _ _ fun _ _=>⟨Yt,Yt⟩
theorem Z4W (l:List Int) (D:Nat->Prop):Xu D (XG l):=Ze (fun _ h=>h.elim) _ (ZG l)
theorem Zr (l:List Nat) (D:Nat->Prop):Xu D (X5 l):=Ze (fun _ h=>h.elim) _ (Z4 l)
theorem Zb4 (l:List Int) (fl:Bool):Xa Tryz.prog 9 [.vec (XG l) fl] (· = XH (X1q (X1g l) l)):=by
 refine Yp ok9 fun C hC=>?_;refine Z4t (k:=0) rfl fun hmax=>?_;have hlm:l.length<=Xd:=by simpa [XG] using hmax
 have hnl:(XG l).length=l.length:=by simp [XG]
 refine go ?_;refine Z49 (fun i=>i<=l.length) (fun i=>l.length-i) (fun i => [(0,.vec (XG l) fl),(2,.ptr 0 0 0),(3,.val (.int .i64 (X1g (l.take i)))),(9,.vec (XG l) fl),(10,.val (.int .i64 (l.length:Int))),(11,Yv i)]) 0 (Y0l _) ⟨rfl,rfl,rfl,rfl,by rw [<- hnl]; rfl,rfl,Yt⟩ ?_;intro i hi;have hinc:IntKind.i64.wrap ((i:Int)+1)=((i+1:Nat):Int):=Y0v _ ⟨by omega,by simp only [Xd] at hlm; omega⟩;(refine go ?_;repeat' (apply B<;>intro hb<;>try cases hb))
 . have hil : i < l.length := by simpa using hb
   refine Qo (Zo (xs:=l) rfl rfl i rfl hil rfl) ?_;(refine go ?_;repeat' (apply B<;>intro hb<;>try cases hb))
   . refine ⟨i + 1, by omega, by omega, rfl, rfl, ⟨rfl, rfl, ?_, rfl, rfl, by show some _ = some _; rw [hinc], Yt⟩⟩;rw [topOf_take' hil (by simpa using hb)]; rfl
   . refine ⟨i + 1, by omega, by omega, rfl, rfl, ⟨rfl, rfl, ?_, rfl, rfl, by show some _ = some _; rw [hinc], Yt⟩⟩;rw [Zb2 hil (by simpa using hb)]; rfl
 . -- no member
   rename_i hb2;have hil:i=l.length:=by simp at hb2; omega
   subst hil;refine Z1I rfl ⟨Yt,Yt⟩ ?_;rw [Y0q] at hb;have hlt:X1g l<0:=by simpa using hb
   rw [ZdF hlt,XH,ZM]
   rfl
 . rename_i hb2;have hil:i=l.length:=by simp at hb2; omega
   subst hil;rw [Y0q] at hb ⊢;have hge:0<=X1g l:=by simpa using hb
   obtain⟨t,ht⟩:∃ t:Nat,X1g l=t:=⟨(X1g l).toNat,by omega⟩
   have htr:=(Zb3 l).2;rw [ht] at htr ⊢;have hq:IntKind.i64.wrap ((t:Int).tdiv 64)=((t / 64:Nat):Int):=by
    rw [Y2Z _ _ ⟨by omega,by omega,by omega⟩]; omega
   have hq1:IntKind.i64.wrap (((t / 64:Nat):Int)+1)=((t / 64+1:Nat):Int):=Y0v _ ⟨by omega,by omega⟩;rw [hq,hq1];refine ZH (Zct (a:=t / 64+1) (b:=t / 64+1) rfl rfl (Y0m _) (by omega)) rfl rfl ?_;have hrep:List.replicate (t / 64+1) (zpv [Value.int .u64 0])=X5 (List.replicate (t / 64+1) 0):=by simp [X5,zpv,X3Z]
   rw [hrep];refine go ?_;refine ZB hC (fun (x:Nat×List Nat)=>x.1<=l.length/\x.2.length=t / 64+1/\X1t x.2/\ofW x.2=X1q t (l.take x.1)) (fun x=>l.length-x.1) 2 (fun x => [(2,.ptr 0 0 0),(3,.val (.int .i64 (t:Int))),(6,.own 1),(28,.vec (XG l) fl),(29,.val (.int .i64 (l.length:Int))),(30,.val (.int .i64 (x.1:Int)))])
    (fun x => [(0,⟨1,[[.vec [] true]]⟩),(1,⟨1,X5 x.2⟩)]) (by omega) (0,List.replicate (t / 64+1) 0) ⟨Y0l _,by simp,fun x hx=>by obtain rfl:=Y1p hx; omega,?_⟩ ⟨⟨rfl,show (0:Nat)<2 by decide⟩,⟨rfl,Yt⟩,⟨rfl,show (1:Nat)<2 by decide⟩,⟨rfl,Z4W _ _⟩,⟨by rw [<- hnl]; rfl,Yt⟩,⟨rfl,Yt⟩,Yt⟩
    ⟨⟨by omega,rfl,⟨Yt,Yt⟩,Yt⟩,⟨by omega,rfl,Zr _ _⟩,Yt⟩ ?_
   . rw [Z6d fun j=>by simp [Y0b,Y3F]; split<;>rfl]; rfl
   rintro⟨i,ws⟩ ⟨hi,hwl,hww,hmask⟩;simp only at hi hwl hww hmask;have hinc:IntKind.i64.wrap ((i:Int)+1)=((i+1:Nat):Int):=Y0v _ ⟨by omega,by simp only [Xd] at hlm; omega⟩;(refine go ?_;repeat' (apply B<;>intro hb<;>try cases hb))
   . have hil : i < l.length := by simpa using hb
     refine Qo (Zo (xs:=l) rfl rfl i rfl hil rfl) ?_;(refine go ?_;repeat' (apply B<;>intro hb<;>try cases hb))
     . have h0 : 0 <= l[i] := by rename_i h0; simpa using h0
       have h1:l[i]<=(t:Int):=by simpa using hb
       have hm:X1q t (l.take (i+1))=X1q t (l.take i) ||| 2 ^ l[i].toNat:=by rw [Z6C hil,Y5 ⟨h0,h1⟩]
       obtain⟨j,hj⟩:∃ j:Nat,l[i]=j:=⟨l[i].toNat,by omega⟩
       rw [hj] at h1 hm ⊢;rw [Y11] at hm;have hjq:IntKind.i64.wrap ((j:Int).tdiv 64)=((j / 64:Nat):Int):=by
        rw [Y2Z _ _ ⟨by omega,by omega,by omega⟩]; omega
       have hjr:(j:Int).tmod 64=((j % 64:Nat):Int):=by
        rw [Y1N (by omega)]; omega
       rw [hjq];have hjl:j / 64<ws.length:=by omega
       have hel:(X5 ws).getD (j / 64) [] = [.val (.int .u64 (ws.getD (j / 64) 0:Nat))]:=by simp [X5,Y0b,hjl]
       have hj64:j % 64<64:=Y1l _ (by omega);have hwn:(X5 ws).length=ws.length:=by simp [X5]
       refine Qr (ZO rfl rfl rfl (j / 64) rfl (by rw [hwn]; exact hjl) rfl) ?_;refine Qr (Z2p rfl rfl (by rw [hwn]; exact hjl) (by rw [hel]; rfl)) ?_;(first|refine st ?_|(apply B<;>intro hb<;>try cases hb));refine Qr (ZS rfl hjr) ?_
       refine Qr (Zf2 rfl rfl (by omega) (v:=((2 ^ (j % 64):Nat):Int)) (by
        rw [show min (((j % 64:Nat):Int)).toNat IntKind.u64.bits=j % 64 by simp [IntKind.bits]; omega];have:2 ^ (j % 64)<2 ^ 64:=Y1L (by omega) hj64;rw [Y4d,show (2:Int) ^ (j % 64)=((2 ^ (j % 64):Nat):Int) by simp]
        exact Y0x _ ⟨Y1U _,Y38.2 (show _<=18446744073709551615 by omega)⟩)) ?_
       refine Qr (ZS rfl (Y1S _ _ (hww.getD _) (show 2 ^ (j % 64)<2 ^ 64 from Y1L (by omega) hj64))) ?_;refine Qr (ZO rfl rfl rfl (j / 64) rfl (by rw [hwn]; exact hjl) rfl) ?_;refine Qr (Z1T rfl rfl rfl rfl rfl (by rw [hwn]; exact hjl) (Y0m _)) ?_;rw [hel,show Xj [PV.val (Value.int .u64 (ws.getD (j / 64) 0:Nat))] 0 (PV.val (Value.int .u64 ((ws.getD (j / 64) 0 ||| 2 ^ (j % 64):Nat):Int))).cells = [.val (.int .u64 ((ws.getD (j / 64) 0 ||| 2 ^ (j % 64):Nat):Int))] from rfl];simp only;rw [Z9G];(refine go ?_;repeat' (apply B<;>intro hb<;>try cases hb));refine⟨(i+1,ws.set (j / 64) (ws.getD (j / 64) 0 ||| 2 ^ (j % 64))),⟨by simp only; omega,by simpa using hwl,hww.set _ (Y2l (n:=64) (hww.getD _) (Y1L (a:=2) (by omega) hj64)),?_⟩,by simp only; omega,⟨⟨rfl,show (0:Nat)<2 by decide⟩,⟨rfl,Yt⟩,⟨rfl,show (1:Nat)<2 by decide⟩,⟨rfl,Z4W _ _⟩,⟨rfl,Yt⟩,⟨by show some _=some _; rw [hinc],Yt⟩,Yt⟩,⟨⟨by omega,rfl,⟨Yt,Yt⟩,Yt⟩,⟨by omega,rfl,Zr _ _⟩,Yt⟩⟩;simp only;rw [ZiB hww hjl hj64,hm,hmask,show 64*(j / 64)+j % 64=j by omega]
     all_goals
      refine⟨(i+1,ws),⟨by simp only; omega,hwl,hww,?_⟩,by simp only; omega,⟨⟨rfl,show (0:Nat)<2 by decide⟩,⟨rfl,Yt⟩,⟨rfl,show (1:Nat)<2 by decide⟩,⟨rfl,Z4W _ _⟩,⟨rfl,Yt⟩,⟨by show some _=some _; rw [hinc],Yt⟩,Yt⟩,⟨⟨by omega,rfl,⟨Yt,Yt⟩,Yt⟩,⟨by omega,rfl,Zr _ _⟩,Yt⟩⟩;simp only;rw [Z6C hil,Y6 (by simp at hb;omega)];exact hmask
   . have hil : i = l.length := by simp at hb; omega
     subst hil;refine Zb (Zn (k:=52) rfl rfl (Z4 ws)) ?_;refine Zz rfl rfl (Z2i ws) ⟨Z4 ws,Yt⟩ rfl fun r hr=>?_;obtain rfl:=hr.set hww;refine go ?_;exact Z8 (r:=XH (ofW ws)) rfl (Z2 _) (by rw [hmask,Y0q])
theorem Z8D (a k:Nat):Int.fdiv (a:Int) (2 ^ k)=((a / 2 ^ k:Nat):Int):=by
 rw [Y3r _ (by exact Int.le_of_lt (Int.pow_pos (by omega)))];simp
theorem Zcz (l:List Nat) (hl:X1t l) (i:Int):Xa Tryz.prog 29 [X5v l,.val (.int .i64 i)] (· = .val (.bool (decide (0<=i/\i<=4095)&&(l.getD (i.toNat / 64) 0).testBit (i.toNat % 64)))):=by
 refine Yp ok29 fun C hC=>?_;refine Zq ?_;refine Za ?_;refine Z5 rfl rfl rfl ?_;(refine go ?_;repeat' (apply B<;>intro hb<;>try cases hb))
 . rename_i h0;have h1:0<=i:=by simpa using h0
   have h2:i<=4095:=by simpa using hb
   obtain⟨j,rfl⟩:∃ j:Nat,i=j:=⟨i.toNat,by omega⟩
   have hq:IntKind.i64.wrap ((j:Int).tdiv 64)=((j / 64:Nat):Int):=by
    rw [Y2Z _ _ ⟨by omega,by omega,by omega⟩]; omega
   have hr:(j:Int).tmod 64=((j % 64:Nat):Int):=by
    rw [Y1N (by omega)]; omega
   refine Z6 (Z1e l (j / 64)) rfl rfl (by show [_,_]=_; rw [hq]; rfl) ⟨Z3L l,Yt,Yt⟩ rfl ?_;refine ZA rfl ?_;(first|refine st ?_|(apply B<;>intro hb<;>try cases hb));refine ZA rfl ?_;refine Zh rfl rfl rfl hr ?_;refine ZA rfl ?_;have hw:=hl.getD (j / 64);have hm:j % 64<64:=Y1l _ (by omega)
   refine Z3j rfl rfl (by omega) (v:=((l.getD (j / 64) 0 / 2 ^ (j % 64):Nat):Int)) (by
    rw [show min (((j % 64:Nat):Int)).toNat IntKind.u64.bits=j % 64 by simp [IntKind.bits]; omega]
    exact Z8D _ _) rfl ?_
   refine ZA rfl ?_
   refine Zh rfl rfl rfl (and_one_u64 _ (Y1U _) (by
    have:=Y4E (l.getD (j / 64) 0) (2 ^ (j % 64))
    exact Y38.2 (show _<=18446744073709551615 by omega))) ?_
   have ht:(((l.getD (j / 64) 0 / 2 ^ (j % 64):Nat):Int) % 2 == 1)=(l.getD (j / 64) 0).testBit (j % 64):=by
    rw [Y4m,YO];generalize l.getD (j / 64) 0 / 2 ^ (j % 64)=z;simp only [Y22,Y0n];omega
   have ht':(decide (0<=(j:Int)/\(j:Int)<=4095)&&(l.getD ((j:Int).toNat / 64) 0).testBit ((j:Int).toNat % 64))=(l.getD (j / 64) 0).testBit (j % 64):=by
    simp only [Y11,Yw (show 0<=(j:Int)/\(j:Int)<=4095 from ⟨h1,h2⟩),Y1j]
   rw [ht',<- ht];refine ZA rfl ?_;generalize (((l.getD (j / 64) 0 / 2 ^ (j % 64):Nat):Int) % 2)=z;(refine go ?_;repeat' (apply B<;>intro hb<;>try cases hb))
   all_goals exact Z8 rfl Yt (by rw [hb])
 . exact Z8 rfl Yt (by simp at hb ⊢;omega)
 . exact Z8 rfl Yt (by simp at hb ⊢;omega)
def rep (c:Nat):Nat->Nat
 | 0=>0
 | n+1=>c+256*rep c n
def s1 (m x:Nat):Nat:=(x / 2 &&& m)+(x &&& m)
def s2 (m x:Nat):Nat:=(x / 4 &&& m)+(x &&& m)
def s3 (m x:Nat):Nat:=(x / 16+x) &&& m
theorem Zb5 (l:List Int):(XG l).length=l.length:=by simp [XG]
theorem Zf9 (N:Nat) (r:Int) (h1:0<=r) (h2:r<=4095):Xa Tryz.prog 29 [.agg [.vec (X5 (X7 N)) false],.val (.int .i64 r)] (· = .val (.bool (N.testBit r.toNat))):=by
 have h:=Zcz (X7 N) (Z34 N) r;rw [Yw (⟨h1,h2⟩:0<=r/\r<=4095),Y1j,<- Z2B (Z34 N),Z6e] at h;exact h
theorem Z6D (N j:Nat):((((N / 2 ^ j % 2:Nat):Int)) == 1)=N.testBit j:=by
 rw [Y4m,YO];simp only [Y22,Y0n];omega
theorem Z3M (N j:Nat) (h:j<64):Int.fdiv (N:Int) (2 ^ (min ((j:Nat):Int).toNat IntKind.u64.bits))=((N / 2 ^ j:Nat):Int):=by
 rw [show min (((j:Nat):Int)).toNat IntKind.u64.bits=j by simp [IntKind.bits]; omega];exact Z8D _ _
theorem Z3k (N j:Nat):(((N / 2 ^ j:Nat):Int)).tmod 2=((N / 2 ^ j % 2:Nat):Int):=by
 generalize N / 2 ^ j=z;rw [Y1N (by omega)]; omega
theorem ZdG (N:Nat):X4c (X7 N):=by
 induction N using Nat.strongRecOn with
 | _ N ih =>
   by_cases h:N=0
   . rw [h,ZM]; exact .inl rfl
   . rw [Z4b h];refine .inr ?_;have:=ih (N / 18446744073709551616) (by omega);cases hd:X7 (N / 18446744073709551616) with
     | nil =>
       have h0:=Z6e (N / 18446744073709551616);rw [hd] at h0;simp only [ofW] at h0;simp;omega
     | cons y s =>
       rw [hd] at this;rcases this with h|h
       . simp at h
       . simpa using h
theorem Zfa:∀ (l:List Nat) (k:Nat),ofW (l++List.replicate k 0)=ofW l
 | [], k => by
   rw [Y1h];exact Z6d fun j=>by rw [Y0b,Y3F]; split<;>rfl
 | x :: r,k=>by simp only [Y4w,ofW,Zfa r k]
theorem Zfb (x j:Nat):x ||| 2 ^ j≠0:=fun h=>by
 have:=congrArg (fun z=>Nat.testBit z j) h;simp [Y00] at this
theorem ZdH (N i:Nat) (h:i<=4095) (L:Nat) (hL:L=max (X7 N).length (i / 64+1)) :
 let l:=X7 N++List.replicate (L-(X7 N).length) 0
 X1t l/\l.length=L/\i / 64<l.length/\∃ v,v=l.getD (i / 64) 0 ||| 2 ^ (i % 64)/\X5v (l.set (i / 64) v)=XH (N ||| 2 ^ i):=by
 intro l;have hw:X1t l:=fun x hx=>by
  rcases Y0h.1 hx with hx|hx
  . exact Z34 N x hx
  . rw [Y1p hx]; omega
 have hl:l.length=L:=by simp [l]; omega
 have hi:i / 64<l.length:=by omega
 refine⟨hw,hl,hi,_,rfl,?_⟩;have hm:i % 64<64:=Y1l _ (by omega);have hv:l.getD (i / 64) 0 ||| 2 ^ (i % 64)<18446744073709551616:=Y2l (n:=64) (hw.getD _) (Y1L (by omega) hm)
 have hc:X4c (l.set (i / 64) (l.getD (i / 64) 0 ||| 2 ^ (i % 64))):=by
  refine .inr ?_;rw [Y14,hl];by_cases he:L-1=i / 64
  . rw [he, Y0b, YW];simp only [Y5 hi,Y1Z,Y2r];exact Zfb _ _
  . have hLd : L = (X7 N).length := by omega
    rw [Y0b,YW,Y6 (Y25 he),<- Y0b];have hl2:l=X7 N:=by simp [l,hLd]
    rw [hl2,hLd];rcases ZdG N with h0|h0
    . omega
    . exact h0
 rw [Zcy (hw.set _ hv) hc,ZiB hw hi hm,Zfa,Z6e,show 64*(i / 64)+i % 64=i by omega]
def X2p (N:Nat) (i:Int):Nat:=if 0<=i/\i<=4095 then N ||| 2 ^ i.toNat else N
theorem Zfc {N i:Nat} (h:N.testBit i=true):N ||| 2 ^ i=N:=by
 refine YF fun j=>?_;rw [Y00,YK];by_cases hj:i=j
 . subst hj; simp [h]
 . simp [hj]
theorem Z3N (N:Nat) (hN:(X7 N).length<=64) (i:Int):Xa Tryz.prog 104 [XH N,.val (.int .i64 i)] (· = XH (X2p N i)):=by
 refine Yp ok104 fun C hC=>?_;refine Zq ?_;refine Za ?_;refine Z5 rfl rfl rfl ?_;(refine go ?_;repeat' (apply B<;>intro hb<;>try cases hb))
 . refine Z8 rfl (Z2 N) ?_;rw [X2p,Y6 (by simp at hb;omega)]; rfl
 . refine Z8 rfl (Z2 N) ?_;rw [X2p,Y6 (by simp at hb;omega)]; rfl
 rename_i h0;have h1:0<=i:=by simp at h0; omega
 have h2:i<=4095:=by simp at hb; omega
 obtain⟨j,rfl⟩:∃ j:Nat,i=j:=⟨i.toNat,by omega⟩
 rw [X2p,Y5 ⟨h1,h2⟩,Y11];have hs:=Zf9 N j h1 h2;rw [Y11] at hs;refine Qe hs ⟨⟨Z4 _,Yt⟩,Yt,Yt⟩ ?_;cases ht:N.testBit j with
 | true =>
   refine go ?_;refine Z8 rfl (Z2 N) ?_;rw [Zfc ht]; rfl
 | false =>
   have hdl:(X5 (X7 N)).length=(X7 N).length:=by simp [X5]
   obtain⟨hw,hl,hi,v,hv,hset⟩:=ZdH N j (by omega) _ rfl;have hq:IntKind.i64.wrap ((j:Int).tdiv 64)=((j / 64:Nat):Int):=by
    rw [Y2Z _ _ ⟨by omega,by omega,by omega⟩]; omega
   have hr:(j:Int).tmod 64=((j % 64:Nat):Int):=by
    rw [Y1N (by omega)]; omega
   have hq1:IntKind.i64.wrap (((j / 64:Nat):Int)+1)=((j / 64+1:Nat):Int):=Y0v _ ⟨by omega,by omega⟩;have hmax:(if ((j / 64+1:Nat):Int)>(((X5 (X7 N)).length:Nat):Int) then ((j / 64+1:Nat):Int) else (((X5 (X7 N)).length:Nat):Int))=((max (X7 N).length (j / 64+1):Nat):Int):=by
    rw [hdl]; split<;>omega
   generalize max (X7 N).length (j / 64+1)=L at *;refine go ?_;rw [hq,hq1,hmax];refine ZH (Zct (a:=L) (b:=L) rfl rfl (Y0m _) (by omega)) rfl rfl ?_;have hrep:List.replicate L (zpv [Value.int .u64 0])=X5 (List.replicate L 0):=by simp [X5,zpv,X3Z]
   rw [hrep];have hcopy:(X5 (X7 N)).take (X5 (List.replicate L 0)).length++(X5 (List.replicate L 0)).drop (X5 (X7 N)).length=X5 (X7 N++List.replicate (L-(X7 N).length) 0):=by
    have hle:(X7 N).length<=L:=by omega
    have e1:(X5 (List.replicate L 0)).length=L:=by simp [X5]
    rw [e1,Yy (by rw [hdl]; exact hle),hdl];simp [X5,Y0r,List.drop_replicate]
   have hwl:∀ c∈X5 (X7 N),c.length=1:=fun c hc=>by obtain⟨x,_,rfl⟩:=Y0i.1 hc; rfl
   iterate 7 (first|refine st ?_|(apply B<;>intro hb<;>try cases hb))
   refine Qo (Zkg (k:=1) rfl rfl rfl hwl rfl) ?_;simp only;rw [hcopy];generalize X7 N++List.replicate (L-(X7 N).length) 0=ws at *;have hm64:j % 64<64:=Y1l _ (by omega);have hwn:(X5 ws).length=ws.length:=by simp [X5]
   have hel:(X5 ws).getD (j / 64) [] = [.val (.int .u64 (ws.getD (j / 64) 0:Nat))]:=by simp [X5,Y0b,hi]
   refine go ?_;rw [hq];refine Qr (ZO rfl rfl rfl (j / 64) rfl (by rw [hwn]; exact hi) rfl) ?_;refine Qr (Z2p rfl rfl (by rw [hwn]; exact hi) (by rw [hel]; rfl)) ?_;(first|refine st ?_|(apply B<;>intro hb<;>try cases hb));refine Qr (ZS rfl hr) ?_
   refine Qr (Zf2 rfl rfl (by omega) (v:=((2 ^ (j % 64):Nat):Int)) (by
    rw [show min (((j % 64:Nat):Int)).toNat IntKind.u64.bits=j % 64 by simp [IntKind.bits]; omega];have:2 ^ (j % 64)<2 ^ 64:=Y1L (by omega) hm64;rw [Y4d,show (2:Int) ^ (j % 64)=((2 ^ (j % 64):Nat):Int) by simp]
    exact Y0x _ ⟨Y1U _,Y38.2 (show _<=18446744073709551615 by omega)⟩)) ?_
   refine Qr (ZS rfl (Y1S _ _ (hw.getD _) (show 2 ^ (j % 64)<2 ^ 64 from Y1L (by omega) hm64))) ?_;refine Qr (ZO rfl rfl rfl (j / 64) rfl (by rw [hwn]; exact hi) rfl) ?_;refine Qr (Z1T rfl rfl rfl rfl rfl (by rw [hwn]; exact hi) (Y0m _)) ?_;rw [hel,show Xj [PV.val (Value.int .u64 (ws.getD (j / 64) 0:Nat))] 0 (PV.val (Value.int .u64 ((ws.getD (j / 64) 0 ||| 2 ^ (j % 64):Nat):Int))).cells = [.val (.int .u64 ((ws.getD (j / 64) 0 ||| 2 ^ (j % 64):Nat):Int))] from rfl];simp only;rw [Z9G,<- hv];generalize ws.set (j / 64) v=w2 at *
   iterate 4 (first|refine st ?_|(apply B<;>intro hb<;>try cases hb))
   refine Zb (Zn (k:=40) rfl rfl (Z4 w2)) ?_;refine go ?_;refine Z8 rfl (Z3L w2) ?_;exact hset
theorem Z35 {N:Nat} (h:N<18446744073709551616):(X7 N).length<=1:=by
 by_cases h0:N=0
 . rw [h0,ZM]; simp
 . rw [Z4b h0,Y1W h,ZM]; simp
end
section
open Go.RowKit
section
variable {P:Program} {C:Ctx} {Fr:Nat->Prop} {e:Env} {h:X1} {n:Nat} {F:XF} {φ:XD} {a:Act} {w:World} {K:Nat->Env->X1->Prop} {os:List Xl} {d:Option Nat} {Q:Exit->Nat->Env->X1->Prop}
theorem X2f.frame {f:FuncId} {b:Bx} {rest:List PV} {R:PV->Bx->Prop} (hs:X2f P f b rest R) (hpb:X2 b.elems) (hpr:X6 rest) {id:Nat} (hb:h id=some b) :
 XX P f n (.ptr id 0 0 :: rest) h fun n' r h'=>∃ b',n'=n/\h'=h.upd id b'/\r.pure/\X2 b'.elems/\R r b':=by
 refine⟨hs.1,fun C e F φ a w vs s hv=>(hs.run hpb hpr hb s hv).mono ?_⟩;rintro en w' ⟨v,r,b',F',rfl,⟨h1,h2,h3⟩,hvr,s'⟩;exact⟨v,r,n,_,F',φ,rfl,⟨b',rfl,rfl,h1,h2,h3⟩,hvr,s'⟩
theorem ZT {f:Operand} {args:List Operand} {g:FuncId} {caps as0 rest:List PV} {b:Bx} {id:Nat} {R:PV->Bx->Prop} (hs:X2f P g b rest R) (hf:ev e f=some (.fn g caps)) (ha:evs e args=some as0) (hr:as0++caps=.ptr id 0 0 :: rest) (hb:h id=some b) (hpb:X2 b.elems) (hpr:X6 rest)
 (hk:∀ r b',r.pure->X2 b'.elems->R r b'->Xk P os n (Xy e d r) (h.upd id b') K):Xk P (⟨d,.call f args,none⟩ :: os) n e h K:=by
 refine Z1d hf ha (R:=fun n' r h'=>∃ b',n'=n/\h'=h.upd id b'/\r.pure/\X2 b'.elems/\R r b') (by rw [hr]; exact hs.frame hpb hpr hb) ?_;rintro n' r h' ⟨b',rfl,rfl,h1,h2,h3⟩;exact hk r b' h1 h2 h3
theorem Z1O {f nt:Nat} {ac:X4} {rs:List X27} (hf:X3R P f nt ac rs) {b:Bx} {rest:List PV} {R:PV->Bx->Prop} (hn:rest.length+1<=nt) (hk:∀ C:Ctx,C.dom 1->aw P C ac (X5w rs fun _ r h'=>∃ b',h' 0=some b'/\r.pure/\X2 b'.elems/\R r b') 1 (XQ (.ptr 0 0 0 :: rest)) (XE [(0,b)])):X2f P f b rest R :=
 Z1y hf hn hk
theorem Zkk {rs:List X27} {R:PV->Bx->Prop} {r:PV} {b':Bx} (hr:XT rs e h=some r) (hp:r.pure) (hb:h 0=some b') (hpb:X2 b'.elems) (hR:R r b'):∃ r0 r,XT rs e h=some r0/\LoP r0 r/\∃ b',h 0=some b'/\r.pure/\X2 b'.elems/\R r b' :=
 ⟨r,r,hr,.inl rfl,b',hb,hp,hpb,hR⟩
inductive X4y (id:Nat) (l:List (List PV)):PV->PV->Prop
 | pure (p:PV) (hp:p.pure):X4y id l p p
 | own:X4y id l (.own id) (.vec l false)
 | agg (xs ys:List PV) (hl:xs.length=ys.length) (h:∀ i,i<xs.length->X4y id l (xs.getD i pvu) (ys.getD i pvu)):X4y id l (.agg xs) (.agg ys)
 | tup (xs ys:List PV) (hl:xs.length=ys.length) (h:∀ i,i<xs.length->X4y id l (xs.getD i pvu) (ys.getD i pvu)):X4y id l (.tup xs) (.tup ys)
theorem X4y.rep {F':XF} {id:Nat} {l:List (List PV)} (hF:∀ x v,F x=some v->F' x=some v) (hown:∀ v,Rep F φ v (.own id)->Rep F' φ v (.vec l false)) {p q:PV} (hr:X4y id l p q):∀ {v:Value},Rep F φ v p->Rep F' φ v q:=by
 induction hr with
 | pure p hp=>exact fun h=>h.mono hF fun _ _ h=>h
 | own=>exact fun h=>hown _ h
 | agg xs ys hl _ ih =>
   intro v h;obtain⟨vs,rfl,h1,h2,h3⟩:=h.agg_inv;exact .agg vs ys (by rw [h1,hl]) (fun i hi=>h2 i (by rw [hl]; exact hi)) fun i hi=>ih i (by rw [hl]; exact hi) (h3 i (by rw [hl]; exact hi))
 | tup xs ys hl _ ih =>
   intro v h;obtain⟨vs,rfl,h1,h2⟩:=h.tup_inv;exact .tup vs ys (by rw [h1,hl]) fun i hi=>ih i (by rw [hl]; exact hi) (h2 i (by rw [hl]; exact hi))
theorem Z6E {k id:Nat} {b:Bx} {p q:PV} (hk:e k=some p) (hb:h id=some b) (hp:X2 b.elems) (hq:X4y id b.elems p q):Sub C n e h n (e.upd k q) (h.del id):=by
 rintro a w ⟨F,φ,s⟩;obtain⟨hlt,hr⟩:=s.env k _ hk;obtain⟨loc',h1,h2,h3⟩:=s.live id b hb;have s1:St' C (fun i=>n<=i) e (h.del id) F φ a w:=s.sub (fun _ _ h=>h) (fun _ _ hh=>(X1.del_some hh).2);have hput:∀ {F':XF},St' C (fun i=>n<=i) e (h.del id) F' φ a w->Rep F' φ (a.tmps.getD k undef) q->St C (fun i=>n<=i) (e.upd k q) (h.del id) a w:=fun {F'} s2 hrep=>by
  refine⟨F',φ,{ s2 with env:=fun j p hj=>?_ }⟩;by_cases hjk:j=k
  . subst hjk; rw [Env.upd_same] at hj; cases hj; exact⟨hlt,hrep⟩
  . rw [Env.upd_ne _ _ hjk] at hj; exact s2.env j p hj
 rcases h2 with h2|h2
 case inr =>
  refine hput s1 (hq.rep (fun _ _ h=>h) (fun v hv=>?_) hr);obtain⟨loc,hl,hz,rfl⟩:=hv.own_inv;obtain rfl:loc'=loc:=by rw [h1] at hl; simpa using hl
  have:=h2.pos;omega
 by_cases hc0:loc'.cap=0
 . have hl0 : loc'.len = 0 := by have := h2.cap; omega
   have he0:b.elems = []:=YC (by rw [h2.len,hl0]);refine hput s1 (hq.rep (fun _ _ h=>h) (fun v hv=>?_) hr);obtain⟨loc,hl,hz,rfl⟩:=hv.own_inv;obtain rfl:loc'=loc:=by rw [h1] at hl; simpa using hl
   rw [he0,hl0,hc0];cases hbs:loc'.base with
   | none=>exact .vecnil false
   | some x=>exact .vec (F:=F) (φ:=φ) x 0 0 [] false (fun _ _=>undef) (fun h=>absurd rfl h) (Y0m _) (by simp) (by simp) (by simp) (by simp) (by simp)
 . obtain ⟨ad, hbase, hs, cells, ct, hg, hroom, hrep⟩ := h2.room hc0;have hhas:loc'.has ad.block:=⟨hc0,ad,hbase,rfl⟩
   have s2:=s1.frz hg (h3 _ hhas).2 (s.del_no hb h1 hhas) (h3 _ hhas).1;have hx:=Z1i (h3 _ hhas).2 cells;refine hput s2 (hq.rep hx (fun v hv=>?_) hr);obtain⟨loc,hl,hz,rfl⟩:=hv.own_inv;obtain rfl:loc'=loc:=by rw [h1] at hl; simpa using hl
   rw [hbase,<- h2.len];have hlt2:∀ i j,i<b.elems.length->j<loc'.esz->ad.off+(i*loc'.esz+j)<cells.size:=fun i j hi hj=>by
    have:=Z1K (n:=loc'.cap) (i:=i) (j:=j) (esz:=loc'.esz) (by have:=h2.cap; have:=h2.len;omega) hj;omega
   refine .vec ad loc'.cap loc'.esz b.elems false (fun i j=>cells.getD (ad.off+(i*loc'.esz+j)) undef) (fun _=>hs) (by rw [h2.len]; exact h2.cap) (by simp) (by rw [h2.len]; exact h2.max) (fun i hi=>h2.el _ (by simp [Y0b,hi])) (fun i j hi hj=>?_) (fun i j hi hj=>?_)
   . exact Z1p F _ _ (hlt2 i j hi hj) (hrep i j (by rw [<- h2.len]; exact hi) hj).1
   . exact (hrep i j (by rw [<- h2.len]; exact hi) hj).2.mono hx fun _ _ h=>h
theorem Z6F {id:Nat} {b:Bx} {i0 j0:Nat} (hb:h id=some b) (hi0:i0<b.elems.length) (hj0:j0<(b.elems.getD i0 []).length) (hcell:(b.elems.getD i0 []).getD j0 pvu=.vec [] true) (esz:Nat) (hp:0<esz) (hn:id<n) (hz:0<b.esz:=by exact Y0 rfl) :
 Sub C n e h (n+1) e ((h.upd id ⟨b.esz,b.elems.set i0 ((b.elems.getD i0 []).set j0 (.own n))⟩).upd n ⟨esz,[]⟩):=by
 rintro a w ⟨F,φ,s⟩;obtain⟨loc,h1,h2,h3⟩:=s.live id b hb;have h2:=h2.cellsB hz;have hcl:(b.elems.getD i0 []).length=loc.esz:=h2.el _ (by simp [Y0b,hi0]);have hc0:loc.cap≠0:=by have:=h2.cap; have:=h2.len; omega
 obtain⟨ad,hbase,hs,cells,ct,hg,hroom,hrep⟩:=h2.room hc0;have hr0:=(hrep i0 j0 (by rw [<- h2.len]; exact hi0) (by rw [<- hcl]; exact hj0)).2;rw [hcell] at hr0;have hbase':∃ base,cells.getD (ad.off+(i0*loc.esz+j0)) undef=.slice base 0 0:=by
  rcases hr0.vec_inv with⟨_,h⟩|⟨x,cap,esz',cs,h,_,_,hf,_⟩
  . exact⟨none,h⟩
  . exact⟨some x,by rw [h,hf rfl]; rfl⟩
 obtain⟨base,hbs⟩:=hbase';have s':=s.allocNil (Y0m n) base esz hp;have hfr:∀ i,n+1<=i->n<=i/\i≠n:=fun i hi=>⟨by omega,by omega⟩
 have s2:=s'.weaken hfr;have hne:id≠n:=by omega
 have hx:=Z17 (s.free n (Y0m n)) ⟨base,esz,0,0⟩;refine⟨F,_,{ s2 with live:=fun i bi hi=>?_,sep:=fun i j bi bj li lj k hi hj hli hlj hki hkj=>?_ }⟩
 . by_cases hin : i = n
   . subst hin;rw [X1.upd_same] at hi;cases hi;exact s2.live i _ (by rw [X1.upd_same])
   . rw [X1.upd_ne _ _ hin] at hi;by_cases hid:i=id
     . subst hid;rw [X1.upd_same] at hi;cases hi;refine⟨loc,hx _ _ h1,?_,h3⟩;refine .inl ⟨h2.esz,h2.pos,by simpa using h2.len,h2.cap,h2.max,fun c hc=>?_,fun _=>⟨ad,hbase,hs,cells,ct,hg,hroom,fun i' j' hi' hj'=>?_⟩⟩
       . rcases Y1R hc with h | h
         . exact h2.el c h
         . rw [h,Y14]; exact hcl
       . refine ⟨(hrep i' j' hi' hj').1, ?_⟩;by_cases hii:i'=i0
         . subst hii;have e1:(b.elems.set i' ((b.elems.getD i' []).set j0 (.own n))).getD i' []=(b.elems.getD i' []).set j0 (.own n):=by
            rw [Y0b,YW]; simp [hi0]
           rw [e1];by_cases hjj:j'=j0
           . subst hjj;have e2:((b.elems.getD i' []).set j' (.own n)).getD j' pvu=.own n:=by
              rw [Y0b,YW,Y5 rfl,Y5 hj0]; rfl
             rw [e2,hbs];exact .own n ⟨base,esz,0,0⟩ (by simp [Xf]) hp
           . have e2 : ((b.elems.getD i' []).set j0 (.own n)).getD j' pvu = (b.elems.getD i' []).getD j' pvu := by
              rw [Y0b,YW,Y6 (Y25 hjj),<- Y0b]
             rw [e2];exact (hrep i' j' hi' hj').2.mono (fun _ _ h=>h) hx
         . have e1 : (b.elems.set i0 ((b.elems.getD i0 []).set j0 (.own n))).getD i' [] = b.elems.getD i' [] := by
            rw [Y0b,YW,Y6 (Y25 hii),<- Y0b]
           rw [e1];exact (hrep i' j' hi' hj').2.mono (fun _ _ h=>h) hx
     . rw [X1.upd_ne _ _ hid] at hi;exact s2.live i bi (by rw [X1.upd_ne _ _ hin]; exact hi)
 . have conv : ∀ {i : Nat} {bi : Bx}, ((h.upd id ⟨b.esz, b.elems.set i0 ((b.elems.getD i0 []).set j0 (.own n))⟩).upd n ⟨esz, []⟩) i = some bi -> ∃ b0, (h.upd n ⟨esz, []⟩) i = some b0 := by
    intro i bi hi;by_cases hin:i=n
    . subst hin; exact⟨_,X1.upd_same _ _ _⟩
    . rw [X1.upd_ne _ _ hin] at hi ⊢;by_cases hid:i=id
      . subst hid; exact⟨b,hb⟩
      . rw [X1.upd_ne _ _ hid] at hi; exact⟨bi,hi⟩
   obtain⟨b1,g1⟩:=conv hi
   obtain⟨b2,g2⟩:=conv hj
   exact s2.sep i j b1 b2 li lj k g1 g2 hli hlj hki hkj
theorem ZP {id:Nat} {b:Bx} {i0 j0:Nat} (hb:h id=some b) (hi0:i0<b.elems.length) (hj0:j0<(b.elems.getD i0 []).length) (hcell:(b.elems.getD i0 []).getD j0 pvu=.vec [] true) (esz:Nat) (hp:0<esz) (hn:id<n) (hz:0<b.esz:=by exact Y0 rfl) :
 X49 n e h (n+1) e ((h.upd id ⟨b.esz,b.elems.set i0 ((b.elems.getD i0 []).set j0 (.own n))⟩).upd n ⟨esz,[]⟩):=fun _=>Z6F hb hi0 hj0 hcell esz hp hn hz
theorem Zb6 {X:Type} {m:Nat} (hdom:C.dom m) (A:X->Prop) (N:Nat) (L:X->List (Nat×PV)) (HL:X->List (Nat×Bx)) {x y:X4} (hm:m<=N) (h1:aw P C x (X2E (fun n e h=>∃ z,A z/\X4Q e N (L z)/\X2W h N (HL z)) Q) n e h) (h2:∀ z,A z->aw P C y Q N (X1v (L z)) (XE (HL z))):aw P C (.seq x y) Q n e h :=
 Zq (Z5r h1 fun ex n e h hq=>by
  cases ex with
  | normal=>obtain⟨z,ha,he,hh⟩:=hq; exact Z6z hdom (L z) (HL z) hm he hh (h2 z ha)
  | _=>exact hq)
def mv (k k':Nat):Nat->Nat:=fun i=>bif Nat.beq i k then k' else i
theorem Z4X {k k' m:Nat} (h:m<=k):∀ i,i<m->mv k k' i=i:=by
 intro i hi;have e1:Nat.beq i k=false:=YB.2 fun hb=>by have:=YJ hb; omega
 unfold mv;rw [e1]; rfl
theorem Zu {ρ:Nat->Nat} {HL:List (Nat×Bx)} (h:((HL.map Prod.fst).all fun x=>(HL.map Prod.fst).all fun y => !(Nat.beq (ρ x) (ρ y))||Nat.beq x y)=true):X3V ρ HL:=by
 intro q hq q' hq' he;have h1:=YI.1 h q.1 (Y1P hq);have h2:=YI.1 h1 q'.1 (Y1P hq');rw [he] at h2;have e1:Nat.beq (ρ q'.1) (ρ q'.1)=true:=Y3W _;rw [e1] at h2;exact YJ (by simpa using h2)
theorem Zp {HL:List (Nat×Bx)}:X3V (fun i=>i) HL:=fun _ _ _ _ h=>h
def X2n (ρ:Nat->Nat) (D:Nat->Prop):List PV->List PV->Prop
 | [],[]=>True
 | a :: r,b :: s=>X1x ρ D a b/\X2n ρ D r s
 | _,_=>False
theorem X2n.get {ρ:Nat->Nat} {D:Nat->Prop}:∀ {l m:List PV},X2n ρ D l m->l.length=m.length/\∀ j,j<m.length->X1x ρ D (l.getD j pvu) (m.getD j pvu)
 | [],[],_=>⟨rfl,fun j hj=>by simp at hj⟩
 | a :: r, b :: s, h => by
   obtain⟨h1,h2⟩:=X2n.get h.2;refine⟨by simp [h1],fun j hj=>?_⟩;cases j with
   | zero=>exact h.1
   | succ j=>exact h2 j (by simpa using hj)
 | [],_ :: _,h=>h.elim
 | _ :: _,[],h=>h.elim
theorem Xr.single {ρ:Nat->Nat} {D:Nat->Prop} {esz:Nat} {l0 l:List PV} (h:X2n ρ D l0 l) (hl:l.length=esz):Xr ρ D ⟨esz,[l0]⟩ ⟨esz,[l]⟩:=by
 obtain⟨h1,h2⟩:=h.get;by_cases hz:esz=0
 . subst hz;obtain rfl:l = []:=YC hl;obtain rfl:l0 = []:=YC h1;exact .same _ ⟨Yt,Yt⟩
 refine .gen _ _ (Nat.pos_of_ne_zero hz) rfl rfl (fun i hi=>?_) fun i j hi hj=>?_
 . have : i = 0 := by simpa using hi
   subst this; exact h1
 . have : i = 0 := by simpa using hi
   subst this; exact h2 j (by rw [hl]; exact hj)
end
mutual
def PV.pureB:PV->Bool
 | .val _=>true
 | .agg l=>X2i l
 | .tup l=>X2i l
 | .vec l _=>X2P l
 | .cp l=>X2i l
 | .ptr _ _ _=>false
 | .own _=>false
 | .view _ _ _=>false
 | .sl _ _ _ _ _=>false
 | .mp _=>false
 | .fn _ l=>X2i l
def X2i:List PV->Bool
 | []=>true
 | p :: l=>p.pureB&&X2i l
def X2P:List (List PV)->Bool
 | []=>true
 | p :: l=>X2i p&&X2P l
end
mutual
theorem Z2C:∀ {p:PV},p.pureB=true->p.pure
 | .val _,_=>trivial
 | .agg l,h=>by simp only [PV.inn]; exact ZY (by simpa [PV.pureB] using h)
 | .tup l,h=>by simp only [PV.inn]; exact ZY (by simpa [PV.pureB] using h)
 | .vec l _,h=>by simp only [PV.inn]; exact ZU (by simpa [PV.pureB] using h)
 | .cp l,h=>by simp only [PV.inn]; exact ZY (by simpa [PV.pureB] using h)
 | .ptr _ _ _,h=>by simp [PV.pureB] at h
 | .own _,h=>by simp [PV.pureB] at h
 | .view _ _ _,h=>by simp [PV.pureB] at h
 | .sl _ _ _ _ _,h=>by simp [PV.pureB] at h
 | .mp _,h=>by simp [PV.pureB] at h
 | .fn _ l,h=>by simp only [PV.inn]; exact ZY (by simpa [PV.pureB] using h)
theorem ZY:∀ {l:List PV},X2i l=true->X6 l
 | [],_=>trivial
 | p :: l, h => by
   simp only [X2i,Y0k] at h;exact⟨Z2C h.1,ZY h.2⟩
theorem ZU:∀ {l:List (List PV)},X2P l=true->X2 l
 | [],_=>trivial
 | p :: l, h => by
   simp only [X2P,Y0k] at h;exact⟨ZY h.1,ZU h.2⟩
end
def KpF (F:XF) (A B:World):Prop:=(∀ x v,F x=some v->A.cell? x=some v->B.cell? x=some v)/\B.os=A.os/\B.tape=A.tape/\B.output=A.output/\A.heap.size<=B.heap.size
theorem KpF.trans {F:XF} {A B C:World} (h:KpF F A B) (k:KpF F B C):KpF F A C :=
 ⟨fun x v hx hv=>k.1 x v hx (h.1 x v hx hv),k.2.1.trans h.2.1,k.2.2.1.trans h.2.2.1,k.2.2.2.1.trans h.2.2.2.1,Y03 h.2.2.2.2 k.2.2.2.2⟩
theorem KpF.refl (F:XF) (A:World):KpF F A A:=⟨fun _ _ _ h=>h,rfl,rfl,rfl,Y0m _⟩
theorem KpF.grown {F:XF} {A B:World} {row:Option Nat} (hg:A.grownBy B row) (hrow:∀ r,row=some r->∃ o:Obj,A.heap[r]?=some o/\o.isCells=false):KpF F A B :=
 ⟨fun x v _ hv=>cell_kept hv hg hrow,hg.os,hg.tape,hg.output,hg.size⟩
def X4r (P:Program) (g:FuncId) (caps:List PV) {α:Type} (encs:α->List Value) (S Sp:List α->Prop) (M:Nat):Prop :=
 X1D P g/\∀ (F:XF) (w:World) (lb:Array Value) (FN:Fence) (m:Nat),Xt FN m->Holds F w->X1B F Xw lb caps->SeqStopsK FN m P g lb (fun x=>(encs x).toArray) (KpF F) S Sp M w
def Ctx.apart (h:X1) (φ:XD) (F:XF) (w:World) (nt:Nat):Ctx:=⟨w,fun k=>∃ i b loc,h i=some b/\φ i=some loc/\loc.has k,F,nt,φ⟩
section
variable {P:Program} {C:Ctx} {Fr Fr':Nat->Prop} {e e':Env} {h h':X1} {F F':XF} {φ φ':XD} {a a':Act} {w w':World}
theorem St'.owned (s:St' C Fr e h F φ a w) {nt k:Nat} (hk:(Ctx.apart h φ F w nt).G k):(C.w0.heap.size<=k \/ C.G k)/\((∃ cells t,w.heap[k]?=some (.cells cells t (0,0))) \/ ∃ es t,w.heap[k]?=some (.map es t)):=by
 obtain⟨i,b,loc,hi,hl,hc⟩:=hk;obtain⟨loc',h1,h2,h3⟩:=s.live i b hi;obtain rfl:loc'=loc:=by rw [h1] at hl; simpa using hl
 refine⟨(h3 k hc).1,?_⟩;exact h2.there hc
theorem St'.enter (s:St' C Fr e h F φ a w):St' (Ctx.apart h φ F w C.nt) Fr e h F φ { a with defers := [] } w:=by
 refine { nt:=s.nt,glob:=s.glob,marks:=X1l.nil rfl,loc0:=fun i x hx=>hx,free:=s.free,env:=s.env,froz:=s.froz,ext:=fun _ _ h=>h,old:=fun _ _ _=>rfl,os:=rfl,tape:=rfl,output:=rfl,size:=Y0m _,kept:=fun _ _ _=>rfl,live:=fun id b hb=>?_,sep:=s.sep };obtain⟨loc,h1,h2,h3⟩:=s.live id b hb;exact⟨loc,h1,h2,fun k hk=>⟨.inr ⟨id,b,loc,hb,h1,hk⟩,(h3 k hk).2⟩⟩
theorem St'.back (s:St' C Fr e h F φ a w) {nt:Nat} (s':St' (Ctx.apart h φ F w nt) Fr' e' h' F' φ' a' w'):St' C Fr' e h' F' φ' a w':=by
 have hne:∀ k,w.heap[k]?=some (.deferred (some []))->¬ (Ctx.apart h φ F w nt).G k:=fun k hk hg=>by
  rcases (s.owned hg).2 with⟨cells,t,hc⟩|⟨es,t,hc⟩
  . rw [hk] at hc; cases hc
  . rw [hk] at hc; cases hc
 refine { nt := s.nt, glob := s'.glob, marks := s.marks.mono fun k hk => ?_, loc0 := fun i x hx => s'.loc0 i x (s.loc0 i x hx), free := s'.free, env := fun k p hp => ⟨(s.env k p hp).1, (s.env k p hp).2.mono s'.ext s'.loc0⟩, froz := s'.froz, ext := fun x v hx => s'.ext _ _ (s.ext x v hx),
          old:=fun x hx hg=>?_,os:=s'.os.trans s.os,tape:=s'.tape.trans s.tape,output:=s'.output.trans s.output,size:=Y03 s.size s'.size,kept:=fun k hk hg=>?_,live:=fun i b hi=>?_,sep:=s'.sep }
 . exact (s'.kept k (Y7.1 hk).1 (hne k hk)).trans hk
 . have hx2 : x.block < w.heap.size := YE hx s.size;rw [s'.old x hx2 fun hg'=>(s.owned hg').1.elim (fun h1=>absurd hx (Y1T.2 h1)) hg];exact s.old x hx hg
 . have := s'.kept k (YE hk s.size) fun hg' => (s.owned hg').1.elim (fun h1 => absurd hk (Y1T.2 h1)) hg;exact this.trans (s.kept k hk hg)
 . obtain ⟨loc, h1, h2, h3⟩ := s'.live i b hi;refine⟨loc,h1,h2,fun k hk=>⟨?_,(h3 k hk).2⟩⟩;rcases (h3 k hk).1 with h4|h4
   . exact .inl (Y03 s.size h4)
   . exact (s.owned h4).1
theorem St'.apart_keeps (s:St' C Fr e h F φ a w) {nt:Nat} (s':St' (Ctx.apart h φ F w nt) Fr' e' h' F' φ' a' w') (hnm:∀ i b,h i=some b->0<b.esz) (B:Nat):KeepsFrom B w w':=by
 refine⟨s'.size,fun k o _ hk ho=>?_⟩;refine (s'.kept k (Y7.1 hk).1 fun hg=>?_).trans hk;obtain⟨i,b,loc,hi,hl,hc⟩:=hg;obtain⟨loc',h1,h2,h3⟩:=s.live i b hi;obtain rfl:loc'=loc:=by rw [h1] at hl; simpa using hl
 obtain⟨hc0,x,hx,rfl⟩:=hc;obtain⟨y,hy,_,cells,t,hg,_⟩:=(h2.cellsB (hnm i b hi)).room hc0;obtain rfl:y=x:=by rw [hy] at hx; simpa using hx
 rw [hk] at hg;cases hg;cases ho
theorem St'.apart_kp (s:St' C Fr e h F φ a w) {nt:Nat} (s':St' (Ctx.apart h φ F w nt) Fr' e' h' F' φ' a' w') {F0:XF} (h0:∀ x v,F0 x=some v->F x=some v):KpF F0 w w' :=
 ⟨fun x v hx _=>(s'.froz x v (s'.ext x v (h0 x v hx))).2.2,s'.os,s'.tape,s'.output,s'.size⟩
theorem Zfd {N nt:Nat} (hfr:∀ i,N<=i->φ i=none):(Ctx.apart h φ F w nt).dom N:=hfr
end
def X6J (e:Env):List Nat->List Value->Env
 | p :: ps,v :: vs=>X6J (e.upd p (.val v)) ps vs
 | _,_=>e
def X4V (a:Act):List Nat->List Value->Act
 | p :: ps,v :: vs=>X4V (a.put (some p) v) ps vs
 | _,_=>a
def X6l (e:Env):List (Nat×Operand)->Option Env
 | []=>some e
 | (d, x) :: l => match ev e x with
   | some p=>X6l (e.upd d p) l
   | none=>none
def X5P (a:Act):List (Nat×Operand)->Act
 | []=>a
 | (d,x) :: l=>X5P (a.put (some d) (a.eval x)) l
theorem Z6G:∀ (ps:List Nat) (vs:List Value) (a:Act),(X4V a ps vs).defers=a.defers
 | [],_,_=>rfl
 | _ :: _,[],_=>rfl
 | p :: ps,v :: vs,a=>by simp only [X4V]; exact Z6G ps vs _
theorem Z9H:∀ (ps:List Nat) (vs:List Value) (a:Act),(X4V a ps vs).tmps=(ps.zip vs).foldl (fun t (p,v)=>t.setIfInBounds p v) a.tmps
 | [],_,_=>rfl
 | _ :: _,[],_=>rfl
 | p :: ps,v :: vs,a=>by simp only [X4V,List.zip_cons_cons,Y19]; exact Z9H ps vs _
section
variable {P:Program} {C:Ctx} {Fr Fr':Nat->Prop} {h h':X1} {F F':XF} {φ φ':XD} {w w':World}
theorem St'.params:∀ {ps:List Nat} {vs:List Value} {e:Env} {a:Act},St' C Fr e h F φ a w->(∀ p∈ps,p<C.nt)->St' C Fr (X6J e ps vs) h F φ (X4V a ps vs) w
 | [],_,_,_,s,_=>s
 | _ :: _,[],_,_,s,_=>s
 | p :: ps,v :: vs,e,a,s,hps=>(s.put (hps p (by simp)) (.val v)).params fun q hq=>hps q (by simp [hq])
theorem St'.moves:∀ {l:List (Nat×Operand)} {e e':Env} {a:Act},St' C Fr e h F φ a w->(∀ q∈l,q.1<C.nt)->X6l e l=some e'->St' C Fr e' h F φ (X5P a l) w
 | [],e,e',a,s,_,he=>by cases he; exact s
 | (d, x) :: l, e, e', a, s, hl, he => by
   simp only [X6l] at he
   split at he
   . rename_i p hp;exact (s.put (hl _ (Y0t ..)) (s.eval hp)).moves (fun q hq=>hl q (by simp [hq])) he
   . cases he
theorem ZcA {FN:Fence} {m:Nat} (hok:Xt FN m) {ops:Array Oper} {K:Act->World->Prop}:∀ {l:List Oper} {ms:List (Nat×Operand)} {a:Act},X2K l=some ms->K (X5P a ms) w->wpListIn FN m P ops (Exit.then K (fun _ _ _=>False)) l a w
 | [], ms, a, hc, hk => by
   obtain rfl : []=ms:=by simpa [X2K] using hc
   exact hk
 | o :: r, ms, a, hc, hk => by
   have key:∀ (x:Operand) (d:Nat) (l':List (Nat×Operand)) (op:AOp),cOp P o=some op->execOp a.eval o=pure (.value (a.eval x))->o.guard=none->o.dst=some d->X2K r=some l'->ms=(d,x) :: l'->wpListIn FN m P ops (Exit.then K (fun _ _ _=>False)) (o :: r) a w:=by
    intro x d l' op hop hex hg hd hr hms;subst hms;simp only [wpListIn];rw [Y5 (by simp [Region.wanted,hg])];refine⟨fun f _=>hok.fn f,?_⟩;rw [Y2n FN.round a.eval o (Z1S hop),hex];have:=ZcA hok (ops:=ops) (a:=a.put (some d) (a.eval x)) hr hk;rw [<- hd] at this;exact this
   simp only [X2K] at hc
   split at hc
   . rename_i x d l' ho hg hd hr;exact key x d l' (.mov x) (by simp [cOp,ho]) (by simp [execOp,ho]) hg hd hr (by simpa using hc.symm)
   . rename_i x d l' ho hg hd hr;exact key x d l' (.mov x) (by simp [cOp,ho]) (by simp [execOp,ho]) hg hd hr (by simpa using hc.symm)
   . cases hc
theorem Zkl {FN:Fence} {m:Nat} (hok:Xt FN m) {K:Act->World->Prop} {c:Code} {ms:List (Nat×Operand)} {a:Act} (hc:X6q c=some ms) (hk:K (X5P a ms) w):c.wpIn FN m P (Exit.then K (fun _ _ _=>False)) a w:=by
 unfold X6q at hc
 split at hc
 . cases hc;exact wpIn_skip hk
 . exact Y3I (ZcA hok hc hk)
 . cases hc
end
def X5K {β:Type} (B:Exit->β->Prop) (m N:Nat) (L:List (Nat×PV)) (HL:β->List (Nat×Bx)):Exit->Nat->Env->X1->Prop :=
 fun ex _ _ h'=>(ex=.normal \/ ex=.ret \/ ∃ id,ex=.exit id)/\∃ z ρ,B ex z/\(∀ i,i<m->ρ i=i)/\X3V ρ (HL z)/\X37 ρ (X1v L) N L/\X1o ρ h' N (HL z)
theorem Z3O {FN:Fence} {m:Nat} (h:Xt FN m) (l k:Nat):Xt (FN.inRound l) k:=by
 refine⟨h.fn,h.depth,fun P f args w R hc=>?_⟩;obtain⟨h1,h2⟩:=h.calls P f args w R hc;exact CallsIn.inRound l ⟨h1,fun cs _=>h2 cs fun d hd=>by rw [h.depth] at hd; cases hd⟩
theorem Zb7 {FN:Fence} {m:Nat} (h:Xt FN m) (k:Nat):Xt FN k:=by
 refine⟨h.fn,h.depth,fun P f args w R hc=>?_⟩;obtain⟨h1,h2⟩:=h.calls P f args w R hc;exact⟨h1,fun cs _=>h2 cs fun d hd=>by rw [h.depth] at hd; cases hd⟩
theorem Zhe {FN:Fence} {m:Nat} (hd:FN.depth=none) (k:Nat) {P:Program} {c:Code} {Q:Exit->Act->World->Prop} {a:Act} {w:World} (h:c.wpIn FN k P Q a w):c.wpIn FN m P Q a w :=
 fun b kk cs hro hb _=>h b kk cs hro hb fun d hd'=>by rw [hd] at hd'; cases hd'
theorem World.grownBy_refl (W:World):W.grownBy W none:=⟨rfl,rfl,rfl,Y0m _,fun _ _ _=>rfl⟩
section
variable {P:Program} {C:Ctx} {e:Env} {h:X1} {n:Nat} {Q:Exit->Nat->Env->X1->Prop}
theorem Z2K {α X:Type} {m0:Nat} (hdom:C.dom m0) {f:Operand} {ps:List Nat} {asg:List (Nat×Operand)} {body:X4} {g:FuncId} {caps:List PV} {encs:α->List Value} {S Sp:List α->Prop} {M:Nat} (L:List (Nat×PV)) (HL:X->List (Nat×Bx))
 (hf:ev (X1v L) f=some (.fn g caps)) (hp:X6 caps) (hit:X4r P g caps encs S Sp M) (henc:∀ x,(encs x).length=ps.length)
 (B:Exit->List α->X->Prop) (N:Nat) (hm:m0<=N) (z0:X) (h0:B .normal [] z0) (hs0:Sub C n e h N (X1v L) (XE (HL z0))) (hnm:∀ z,∀ q∈HL z,0<q.2.esz)
 (e2:α->Env) (he2:∀ x,X6l (X6J (X1v L) ps (encs x)) asg=some (e2 x))
 (round:∀ (C2:Ctx),C2.dom N->∀ pre x z,B .normal pre z->pre.length<M->aw P C2 body (X5K (fun ex z'=>B ex (pre ++ [x]) z') m0 N L HL) N (e2 x) (XE (HL z)))
 (done:∀ xs z,S xs->B .normal xs z->Q .normal N (X1v L) (XE (HL z)))
 (stop:∀ ex pre z,Sp pre->B ex pre z->(ex=.ret \/ ∃ id,ex=.exit id)->Q ex N (X1v L) (XE (HL z))):aw P C (.range f ps asg body) Q n e h:=by
 intro hmx FN m hokl c hc a w hs;obtain⟨hok,hlo⟩:=hokl;have:∃ ps' cg cb,c=.rangeFunc f ps' cg cb/\ps'.toList=ps/\X6q cg=some asg/\Xn P C.nt cb=some body/\(∀ p∈ps,p<C.nt)/\∀ q∈asg,q.1<C.nt:=by
  unfold Xn at hc
  split at hc<;>first
   | (simp at hc; done)
   | (split at hc
      . split at hc
        . rename_i hall;simp only [Y2k,X4.range.injEq] at hc;obtain⟨rfl,rfl,rfl,rfl⟩:=hc;simp only [Y0k,YI,Y0n] at hall;exact⟨_,_,_,rfl,rfl,by assumption,by assumption,hall.1,hall.2⟩
        . simp at hc
      . simp at hc)
   | ((repeat' (split at hc))<;>simp at hc; done)
 obtain⟨ps',cg,cb,rfl,rfl,hcg,hcb,hpl,hal⟩:=this;obtain⟨F1,φ1,s1⟩:=hs0 a w hs;obtain⟨lb,hlb,hlz,hlr⟩:=(s1.eval hf).fn_inv;have hrep:X1B F1 Xw lb caps:=⟨hlz,fun i hi=>(hlr i hi).pure (ZL hp i)⟩
 obtain⟨⟨fn,hfn,hname,hbody⟩,hcon⟩:=hit;have eg:∀ args w,(callFunc g args).run P w=.ok (.enter g args) w:=fun args w=>by
  have h1 : ¬ fn.name = "runtime.NumGoroutine" := by simpa using hname
  have h2:¬ fn.body=none:=fun h=>by rw [h] at hbody; simp at hbody
  simp [callFunc,hfn,h1,h2]
 have hcon':∀ k,SeqStopsK FN k P g lb (fun x=>(encs x).toArray) (KpF F1) S Sp M w:=fun k=>hcon F1 w lb FN k (Zb7 hok k) ⟨s1.froz,s1.glob⟩ hrep;have hmk:∀ d∈a.defers,∀ D,d={ target:=.collected D,args := #[] }->D<w.heap.size:=fun d hd D hD=>by
  obtain⟨D1,e1,_,e3⟩:=s1.marks.all d hd;rw [e1] at hD;have:D1=D:=by simpa using hD
  rw [<- this];exact (Y7.1 e3).1
 let I:List α->World->Prop:=fun pre W=>∃ z,B .normal pre z/\∃ F φ,(∀ x v,F1 x=some v->F x=some v)/\St' C (fun i=>N<=i) (X1v L) (XE (HL z)) F φ a W
 let Ix:Code->List α->World->Prop:=fun c pre W=>∃ ex z,((c=.ret/\ex=.ret) \/ ∃ id,c=.exit id/\ex=.exit id)/\B ex pre z/\∃ F φ,St' C (fun i=>N<=i) (X1v L) (XE (HL z)) F φ a W
 have hnm':∀ z i b,XE (HL z) i=some b->0<b.esz:=fun z i b hb=>hnm z (i,b) (Z1F hb);have turn:∀ {W W':World} {row:Option Nat} {F:XF} {φ:XD} {hh:X1},St' C (fun i=>N<=i) (X1v L) hh F φ a W->(∀ i b,hh i=some b->0<b.esz)->W.grownBy W' row->(∀ r,row=some r->w.heap.size<=r/\∃ o:Obj,W.heap[r]?=some o/\o.isCells=false)->St' C (fun i=>N<=i) (X1v L) hh F φ a W':=by
  intro W W' row F φ hh s hnm hg hr;refine s.turned hg (fun r he=>⟨Y03 s1.size (hr r he).1,(hr r he).2⟩) (.inl hnm) rfl ⟨s.marks.nd,fun d hd=>?_⟩;obtain⟨D,e1,e2,e3⟩:=s.marks.all d hd;refine⟨D,e1,e2,?_⟩;have:=hmk d hd D e1;rw [hg.block D (Y7.1 e3).1 (fun he=>by have:=(hr D he.symm).1;omega)];exact e3
 have hI:OwnFrom w.heap.size I:=by
  rintro pre W W' row ⟨z,hB,F,φ,hF,s⟩ hg hr;exact⟨z,hB,F,φ,hF,turn s (hnm' z) hg hr⟩
 have hIx:∀ c,OwnFrom w.heap.size (Ix c):=by
  rintro c pre W W' row ⟨ex,z,hc,hB,F,φ,s⟩ hg hr;exact⟨ex,z,hc,hB,F,φ,turn s (hnm' z) hg hr⟩
 have hI0:I [] w:=⟨z0,h0,F1,φ1,fun _ _ h=>h,s1⟩
 have hact:∀ x,({ tmps:=(ps'.zip (encs x).toArray).foldl (fun t (p,v)=>t.setIfInBounds p v) a.tmps,defers := [] }:Act)=X4V { a with defers := [] } ps'.toList (encs x):=fun x=>by
  have h1:=Z9H ps'.toList (encs x) { a with defers := [] };have h2:=Z6G ps'.toList (encs x) { a with defers := [] };have h3:(ps'.zip (encs x).toArray).foldl (fun t (p,v)=>t.setIfInBounds p v) a.tmps=(ps'.toList.zip (encs x)).foldl (fun t (p,v)=>t.setIfInBounds p v) a.tmps:=by
   rw [<- Y4k,Array.toList_zip]
  rw [h3];generalize X4V { a with defers := [] } ps'.toList (encs x)=b at h1 h2;obtain⟨bt,bd⟩:=b;simp only at h1 h2;rw [h1,h2]
 let Ax:α->Act->World->Prop:=fun x a' _=>a'=X5P (X4V { a with defers := [] } ps'.toList (encs x)) asg
 have hassign:∀ (k l:Nat) (pre:List α) (x:α) (W:World) (K:Act->World->Prop),I pre W->(∀ a' W',KeepsFrom w.heap.size W W'->KpF F1 W W'->I pre W'->Ax x a' W'->K a' W') ->
  cg.wpIn (FN.inRound l) k P (Exit.then K (fun _ _ _=>False)) { tmps:=(ps'.zip (encs x).toArray).foldl (fun t (p,v)=>t.setIfInBounds p v) a.tmps,defers := [] } W:=by
  intro k l pre x W K hi hK;rw [hact];exact Zkl (Z3O hok l k) hcg (hK _ _ (KeepsFrom.refl _ _) (KpF.refl _ _) hi rfl)
 have hround:∀ (k l:Nat) (pre:List α) (x:α) (a':Act) (W:World),(∃ r,W.heap[l]?=some (.loop r))->I pre W->Ax x a' W->pre.length<M->cb.wpIn (FN.inRound l) k P (ownPostG w.heap.size (KpF F1) I Ix (pre ++ [x]) W) a' W:=by
  rintro k l pre x a' W ⟨r,hl⟩ ⟨z,hB,F,φ,hF,s⟩ rfl hlen;have s3:=(s.enter.params (ps:=ps'.toList) (vs:=encs x) hpl).moves hal (he2 x);have hlo2:X4k (FN.inRound l) (Ctx.apart (XE (HL z)) φ F W C.nt):=by
   intro l' hl';obtain rfl:l=l':=by simpa [Fence.inRound] using hl'
   refine⟨⟨r,hl⟩,fun hg=>?_⟩;rcases (s.owned hg).2 with⟨cells,t,hc⟩|⟨es,t,hc⟩
   . rw [hl] at hc; cases hc
   . rw [hl] at hc; cases hc
  refine Y2x (round _ (Zfd s.free) pre x z hB hlen hmx (FN.inRound l) k ⟨Z3O hok l k,hlo2⟩ cb hcb _ W ⟨F,φ,s3⟩) ?_;rintro ex a3 W3 ⟨n',e',h',⟨hex,z',ρ,hB',hρ,hinj,hEq,hHq⟩,F',φ',s4⟩;obtain ⟨φ'',s5⟩ := (s.back s4).ren ρ hEq.mem hHq.mem hinj hdom hm hρ;have hF':∀ x v,F1 x=some v->F' x=some v:=fun x v hx=>s4.ext x v (hF x v hx);rcases hex with rfl|rfl|⟨id,rfl⟩
  . exact ⟨s.apart_keeps s4 (hnm' z) _,s.apart_kp s4 hF,z',hB',F',φ'',hF',s5⟩
  . exact ⟨s.apart_keeps s4 (hnm' z) _,.ret,z',.inl ⟨rfl,rfl⟩,hB',F',φ'',s5⟩
  . exact ⟨s.apart_keeps s4 (hnm' z) _,.exit id,z',.inr ⟨id,rfl,rfl⟩,hB',F',φ'',s5⟩
 have hKb:∀ (W:World) (l:Nat) (o o':Obj),w.heap.size<=l->W.heap[l]?=some o->o.isCells=false->o.isWalk=false->KpF F1 W (W.putObj l o'):=fun W l o o' _ hl ho _=>KpF.grown (grownBy_putObj' W l o') fun r hr=>by cases hr; exact⟨o,hl,ho⟩
 have hps:∀ x,((encs x).toArray).size=ps'.size:=fun x=>by have:=henc x; simpa using this
 have hfin:∀ (a':Act) (c:Code) (ex:Exit) (W:World),((c=.ret/\ex=.ret) \/ ∃ id,c=.exit id/\ex=.exit id)->X3c C Q ex a' W->∀ k,c.wpIn FN k P (X3c C Q) a' W:=by
  rintro a' c ex W (⟨rfl,rfl⟩|⟨id,rfl,rfl⟩) hq k
  . exact wpIn_ret hq
  . exact wpIn_exit hq
 refine Zhe hok.depth (m+1) ?_;cases hro:FN.round with
 | none =>
   have hnew:∀ (D:Nat) {W:World} {F:XF} {φ:XD} {hh:X1},w.heap.size<=D->W.heap[D]?=some (.deferred (some []))->St' C (fun i=>N<=i) (X1v L) hh F φ a W->St' C (fun i=>N<=i) (X1v L) hh F φ { a with defers:={ target:=.collected D,args := #[] } :: a.defers } W:=by
    intro D W F φ hh hD hd s;refine s.turned (World.grownBy_refl W) (fun r hr=>by cases hr) (.inr fun r es t hr=>by cases hr) rfl ⟨Y2X.2 ⟨fun hin=>?_,s.marks.nd⟩,fun d hd'=>?_⟩
    . have:=hmk _ hin D rfl; omega
    . rcases Y9.1 hd' with rfl | hd'
      . exact⟨D,rfl,Y03 s1.size hD,hd⟩
      . exact s.marks.all d hd'
   refine wpIn_rangeFunc_ownH hro (by omega) hlb (hok.fn g) eg (hcon' _) (fun h k=>h.trans k) hKb (Below.refl _ _) hps I Ix hI hIx hI0 Ax (fun x a' _ W W' row h _ _=>h) (fun l=>hassign _ l) (fun l pre x a' W _ hl hi hx hlen=>hround _ l pre x a' W hl hi hx hlen) ?_ ?_
   . rintro D xs W hD hS ⟨z, hB, F, φ, _, s⟩ hd;exact⟨N,_,_,done xs z hS hB,F,φ,hnew D hD hd s⟩
   . rintro D c pre W hD hS ⟨ex, z, hcx, hB, F, φ, s⟩ hd;refine hfin _ c ex W hcx ⟨N,_,_,stop ex pre z hS hB ?_,F,φ,hnew D hD hd s⟩ _;rcases hcx with⟨_,h⟩|⟨id,_,h⟩
     . exact .inl h
     . exact .inr ⟨id,h⟩
 | some l₀ =>
   obtain⟨⟨r₀,hr₀⟩,hg₀⟩:=hlo l₀ hro;have hw₀:w.heap[l₀]?=some (.loop r₀):=(s1.kept l₀ (Y7.1 hr₀).1 hg₀).trans hr₀;refine wpIn_rangeFunc_ownN hro hw₀ (by omega) hlb (hok.fn g) eg (hcon' _) (fun h k=>h.trans k) hKb (Below.refl _ _) hps I Ix hI hIx hI0 Ax (fun x a' _ W W' row h _ _=>h) (fun l=>hassign _ l) (fun l pre x a' W _ hl hi hx hlen=>hround _ l pre x a' W hl hi hx hlen) ?_ ?_
   . rintro xs W hS ⟨z, hB, F, φ, _, s⟩;exact⟨N,_,_,done xs z hS hB,F,φ,s⟩
   . rintro c pre W hS ⟨ex, z, hcx, hB, F, φ, s⟩;refine hfin _ c ex W hcx ⟨N,_,_,stop ex pre z hS hB ?_,F,φ,s⟩ _;rcases hcx with⟨_,h⟩|⟨id,_,h⟩
     . exact .inl h
     . exact .inr ⟨id,h⟩
end
def X1u (op:AOp) (e:Env):Option PV :=
 match op with
 | .mov x=>ev e x
 | .bin op .num x y => match ev e x, ev e y with
   | some (.val a),some (.val b)=>(X4A op a b).map .val
   | _,_=>none
 | .una op x => match ev e x with
   | some p=>X6h op p
   | none=>none
 | .faddr off x => match ev e x with
   | some (.cp l)=>some (.cp (l.drop off))
   | _=>none
 | .load false 1 x => match ev e x with
   | some (.cp (p :: _))=>some p
   | _=>none
 | .len x => match ev e x with
   | some (.vec l _)=>some (.val (.int .i64 l.length))
   | _=>none
 | .iaddr esz x i => match ev e x, ev e i with
   | some (.vec l _), some (.val (.int _ n)) => if 0 <= n /\ n < (l.length : Int) then
      (if (l.getD n.toNat []).length=esz then some (.cp (l.getD n.toNat [])) else none) else none
   | _,_=>none
 | _=>none
section
variable {P:Program} {F:XF} {a:Act} {w:World} {e:Env} {nt:Nat}
structure X2C (nt:Nat) (F:XF) (e:Env) (a:Act):Prop where
 sz:a.tmps.size=nt
 nd:a.defers = []
 env:∀ k p,e k=some p->k<nt/\Rep F Xw (a.tmps.getD k undef) p
theorem X2C.eval (s:X2C nt F e a) (hF:Holds F w) {x:Operand} {p:PV} (hx:ev e x=some p):Rep F Xw (a.eval x) p:=by
 cases x with
 | tmp t=>exact (s.env t p (by simpa [ev] using hx)).2
 | const v => obtain rfl : X3Z v = p := by simpa [ev] using hx
              exact Z3e v
 | global g =>
   simp only [ev] at hx
   split at hx
   . cases hx; exact .val _
   . rename_i v l hg;cases hx;have hlen:(zpv (v :: l)).length=(v :: l).length:=by simp [zpv]
     refine .cp ⟨g,0,none⟩ (zpv (v :: l)) (fun j=>(v :: l).getD j undef) rfl (fun j hj=>?_) (fun j hj=>?_)
     . have hj' : j < (v :: l).length := by rw [<- hlen]; exact hj
       have e1:(X3b g)[j]?=some ((v :: l).getD j undef):=by rw [hg,Y0b,Y0c hj']; rfl
       have:=hF.2 g j _ e1;rw [Y17];exact this
     . have hj' : j < (v :: l).length := by rw [<- hlen]; exact hj
       have e2:(zpv (v :: l)).getD j pvu=X3Z ((v :: l).getD j undef):=by
        simp only [zpv,Y0b,Y0y,Y0c hj',Y1e,Y2r]
       rw [e2];exact Z3e _
 | func f => obtain rfl : _ = p := by simpa [ev] using hx
             exact .fn f #[] [] rfl (fun i hi=>absurd hi (by simp))
theorem X2C.put (s:X2C nt F e a) {d:Nat} {v:Value} {p:PV} (hd:d<nt) (hr:Rep F Xw v p):X2C nt F (e.upd d p) (a.put (some d) v):=by
 refine⟨by simp [Act.put,s.sz],s.nd,fun k q hq=>?_⟩;simp only [Act.put];rw [Z18 _ _ _ _ (by rw [s.sz]; exact hd)];by_cases hk:k=d
 . subst hk;rw [Env.upd_same] at hq;obtain rfl:p=q:=by simpa using hq
   simpa using ⟨hd,hr⟩
 . rw [Env.upd_ne _ _ hk] at hq;simpa [hk] using s.env k q hq
theorem X2C.putO (s:X2C nt F e a) {d:Option Nat} {v:Value} {p:PV} (hd:X2u nt d=true) (hr:Rep F Xw v p):X2C nt F (Xy e d p) (a.put d v):=by
 cases d with
 | none=>exact s
 | some d=>exact s.put (by simpa [X2u] using hd) hr
theorem Zb8 {o:Oper} {op:AOp} (hc:cOp P o=some op) (s:X2C nt F e a) (hF:Holds F w) {p:PV} (hq:X1u op e=some p):∃ val,(execOp a.eval o).run P w=.ok (.value val) w/\Rep F Xw val p:=by
 unfold cOp at hc
 split at hc
 case h_1 x ho =>
  cases hc;exact⟨_,by simp [execOp,ho],s.eval hF hq⟩
 case h_2 x ho =>
  cases hc;exact⟨_,by simp [execOp,ho],s.eval hF hq⟩
 case h_4 bop t x y yt ho =>
  have key:op=.bin bop .num x y->∃ val,(execOp a.eval o).run P w=.ok (.value val) w/\Rep F Xw val p:=by
   rintro rfl;simp only [X1u] at hq
   split at hq
   case h_2=>cases hq
   rename_i va vb hx hy;have ha:=(s.eval hF hx).val_inv;have hb:=(s.eval hF hy).val_inv;cases hs:X4A bop va vb with
   | none=>simp [hs] at hq
   | some r =>
     obtain rfl:PV.val r=p:=by simpa [hs] using hq
     have hrun:=Zch (P:=P) (w:=w) (t:=t) (x:=x) (y:=y) hs;have hex:execOp a.eval o=(do pure (.value (<- (do eqGuard bop t x y (a.eval x) (a.eval y); binOp bop t (a.eval x) (a.eval y):Sem Value)))):=by simp only [execOp,ho]
     exact⟨r,by rw [hex,ha,hb,Y1c,hrun]; rfl,.val _⟩
  (repeat' (split at hc))<;>first|(cases hc; exact key rfl)|(cases hc; simp [X1u] at hq; done)|(cases hc; done)
 case h_5 uop t x ho =>
  cases hc;simp only [X1u] at hq
  split at hq
  case h_2=>cases hq
  rename_i q hx;obtain⟨val,hrun,hrep⟩:=Zci (P:=P) (w:=w) (s.eval hF hx) hq;exact⟨val,by simp [execOp,ho,hrun],hrep⟩
 case h_11 t x ho =>
  have hex:execOp a.eval o=(do pure (.value (<- Instr.loadAt t (a.eval x)))):=by simp [execOp,ho]
  cases hl:X10 P t with
  | none=>simp [hl] at hc
  | some l =>
    obtain rfl:AOp.load l.1 l.2 x=op:=by simpa [hl] using hc
    obtain⟨agg,size⟩:=l;cases agg with
    | true=>simp [X1u] at hq
    | false =>
      obtain⟨rfl,_⟩:=Z2A hl;simp only [X1u] at hq
      split at hq
      case h_2=>cases hq
      rename_i p' l hx;cases hq;obtain⟨ad,cs,hv,hs,hFc,hR⟩:=(s.eval hF hx).cp_inv;have hcut:X1a false 1 0 (p :: l)=some p:=by simp [X1a]
      obtain⟨val,hr,hrep⟩:=Z4M (w:=w) hl hs hcut (fun j hj=>by
       obtain rfl:j=0:=by omega
       exact⟨cs 0,(hF.1 _ _ (hFc 0 (by simp))).2.2,(hF.1 _ _ (hFc 0 (by simp))).2.1,hR 0 (by simp)⟩)
      exact⟨val,by rw [hex]; simp [Instr.loadAt,hv,Instr.sureAddr,hr],hrep⟩
 case h_14 t x i ho =>
  have hex:execOp a.eval o=(do pure (.value (<- Instr.fieldAt t (a.eval x) i))):=by simp [execOp,ho]
  split at hc
  case h_2=>simp at hc
  rename_i fs hu
  split at hc
  case h_2=>simp at hc
  rename_i f hf
  split at hc
  case h_2=>simp at hc
  rename_i inf hi
  split at hc
  case isFalse=>simp at hc
  rename_i hp;cases hc;simp only [X1u] at hq
  split at hq
  case h_2=>cases hq
  rename_i l hl;cases hq;have hne:inf.size≠0:=by omega
  have hfp:∀ ad:Addr,(fieldPlace ad f).run P w=.ok (ad.add f.offset) w:=fun ad=>by
   simp [fieldPlace,Zj hi,hne]
  obtain⟨ad,cs,hv,hs,hFc,hR⟩:=(s.eval hF hl).cp_inv;refine⟨.pointer (some (ad.add f.offset)),by rw [hex]; simp [Instr.fieldAt,YA hu,hf,hv,Instr.sureAddr,hfp],?_⟩;rw [ZR _ _ hs];refine .cp _ _ (fun j=>cs (f.offset+j)) rfl (fun j hj=>?_) (fun j hj=>?_)
  . have : f.offset + j < l.length := by simp at hj; omega
    simpa [Y1F] using hFc _ this
  . have : f.offset + j < l.length := by simp at hj; omega
    simpa [Y0b] using hR _ this
 case h_16 t x i ho =>
  have hex:execOp a.eval o=(do pure (.value (<- Instr.indexAt t (a.eval x) (a.eval i)))):=by simp [execOp,ho]
  split at hc
  . rename_i el hu;have hel:P.elem t=el:=by simp [Program.elem,hu]
    have hu':P.underlying t=some (.slice (P.elem t)):=by rw [hel]; exact hu
    cases hi:P.info? el with
    | none=>simp [hi] at hc
    | some inf =>
      obtain rfl:AOp.iaddr inf.size x i=op:=by simpa [hi] using hc
      simp only [X1u] at hq
      split at hq
      case h_2=>cases hq
      rename_i l full k n hx hn
      split at hq
      case isFalse=>cases hq
      rename_i hb
      split at hq
      case isFalse=>cases hq
      rename_i hlen;cases hq;have hvn:=(s.eval hF hn).val_inv;have hlt:n.toNat<l.length:=by omega
      rcases (s.eval hF hx).vec_inv with⟨rfl,_⟩|⟨ad,cap,esz,cs,hv,hs,hcap,_,_,he,hFc,hR⟩
      . simp at hlt
      have hesz:esz=inf.size:=by rw [<- hlen]; exact (he _ hlt).symm
      subst hesz
      refine⟨.pointer (some (ad.add (n.toNat*inf.size))),by
       rw [hex,hv,hvn,Y1c,Y33 w t ad l.length cap k n hu',Y5 hb,hel,Zj hi]; rfl,?_⟩
      rw [ZR _ _ (hs (by rintro rfl; simp at hlt))];refine .cp _ _ (fun j=>cs n.toNat j) rfl (fun j hj=>?_) (fun j hj=>?_)
      . have := hFc n.toNat j hlt (by omega);simpa [Y1F] using this
      . exact hR n.toNat j hlt (by omega)
  . simp only [Y2u] at hc;obtain⟨_,_,rfl⟩:=hc;simp [X1u] at hq
  . cases hc
 case h_25 c ho =>
  split at hc
  . cases hc; simp [X1u] at hq
  . rename_i hcal
    split at hc
    case h_2=>simp at hc
    rename_i t x ht hx;have ha:c.args = #[x]:=X43 hx;have hat:c.argTypes = #[t]:=X43 ht;have hex:execOp a.eval o=(do pure (.value (<- Builtin.len_ #[t] o.type #[a.eval x]))):=by simp [execOp,ho,resolve,hcal,invoke,builtin,ha,hat]
    split at hc
    . rename_i el hu;cases hc;simp only [X1u] at hq
      split at hq
      case h_2=>cases hq
      rename_i l full hxl;cases hq;rcases (s.eval hF hxl).vec_inv with⟨rfl,hv⟩|⟨ad,cap,esz,cs,hv,_⟩
      . exact⟨.int .i64 0,by rw [hex]; simp [Builtin.len_,YA hu,hv,goInt],.val _⟩
      . exact⟨.int .i64 l.length,by rw [hex]; simp [Builtin.len_,YA hu,hv,goInt],.val _⟩
    all_goals ((repeat' (split at hc))<;>first
    | (cases hc; done)
    | (cases hc; simp [X1u] at hq; done)
    | (simp at hc; done)
    | (simp only [Y2u] at hc; obtain⟨_,_,rfl⟩:=hc; simp [X1u] at hq; done))
  all_goals ((repeat' (split at hc))<;>first
   | (cases hc; done)
   | (cases hc; simp [X1u] at hq; done)
   | (simp at hc; done)
   | (simp only [Y2u] at hc; obtain⟨_,_,rfl⟩:=hc; simp [X1u] at hq; done))
 all_goals ((repeat' (split at hc))<;>first
  | (cases hc; done)
  | (cases hc; simp [X1u] at hq; done)
  | (simp at hc; done)
  | (simp only [Y2u] at hc; obtain⟨_,_,rfl⟩:=hc; simp [X1u] at hq; done))
end
structure JC (α:Type) where
 FN:Fence
 m:Nat
 nt:Nat
 F:XF
 B:Nat
 K:Bool->List α->World->Prop
 l:Nat
 N:Nat
 encs:α->List Value
 Sp:List α->Prop
structure JC.Ok {α:Type} (Y:JC α) (P:Program):Prop where
 fence:Xt Y.FN Y.m
 round:Y.FN.round=none
 grow:∀ b pre W W',Y.K b pre W->W.grownBy W' none->Y.K b pre W'
 yield:∀ pre x W,Y.K true pre W->pre.length<Y.N->YieldAt Y.FN (Y.m-1) P Y.l (Y.encs x).toArray W fun e W' =>
  (e=.returned (.bool true)/\Y.K true (pre ++ [x]) W'/\KpF Y.F W W') \/ (e=.returned (.bool false)/\Y.K false (pre ++ [x]) W')
section
variable {α:Type} {P:Program} {Y:JC α}
def JSt (Y:JC α) (b:Bool) (pre:List α) (e:Env) (a:Act) (w:World):Prop:=X2C Y.nt Y.F e a/\Holds Y.F w/\Y.K b pre w
def X4n (Y:JC α) (Q:Exit->List α->Env->Prop) (x:Exit) (a:Act) (w:World):Prop:=(∃ pre e,Q x pre e/\JSt Y true pre e a w) \/ (x=.ret/\∃ pre,Y.Sp pre/\Y.K false pre w/\a.defers = [])
def jw (P:Program) (Y:JC α) (ac:X4) (Q:Exit->List α->Env->Prop) (pre:List α) (e:Env):Prop :=
 Y.Ok P->∀ c,Xn P Y.nt c=some ac->∀ a w,JSt Y true pre e a w->c.wpIn Y.FN Y.m P (X4n Y Q) a w
def X5Z (next:List α->Env->Prop) (Q:Exit->List α->Env->Prop):Exit->List α->Env->Prop
 | .normal=>next
 | x=>Q x
def X58 (id:Nat) (Q:Exit->List α->Env->Prop):Exit->List α->Env->Prop
 | .exit id'=>bif Nat.beq id' id then Q .normal else Q (.exit id')
 | x=>Q x
variable {Q:Exit->List α->Env->Prop} {pre:List α} {e:Env}
theorem Z4z (hk:Q .normal pre e):jw P Y .skip Q pre e:=by
 intro hY c hc a w hs;have:c=.skip:=by
  unfold Xn at hc
  split at hc<;>first|rfl|(simp at hc; done)|((repeat' (split at hc))<;>simp at hc)
 subst this;exact wpIn_skip (.inl ⟨pre,e,hk,hs⟩)
theorem Z5u {id:Nat} (hk:Q (.exit id) pre e):jw P Y (.exit id) Q pre e:=by
 intro hY c hc a w hs;have:c=.exit id:=by
  unfold Xn at hc
  split at hc<;>first|(simp at hc; subst hc; rfl)|(simp at hc; done)|((repeat' (split at hc))<;>simp at hc)
 subst this;exact wpIn_exit (.inl ⟨pre,e,hk,hs⟩)
theorem Z7M (hk:Q .ret pre e):jw P Y .ret Q pre e:=by
 intro hY c hc a w hs;have:c=.ret:=by
  unfold Xn at hc
  split at hc<;>first|rfl|(simp at hc; done)|((repeat' (split at hc))<;>simp at hc)
 subst this;exact wpIn_ret (.inl ⟨pre,e,hk,hs⟩)
theorem Z4Y {x y:X4} (hk:jw P Y x (X5Z (jw P Y y Q) Q) pre e):jw P Y (.seq x y) Q pre e:=by
 intro hY c hc a w hs;have:∃ c1 c2,c=.seq c1 c2/\Xn P Y.nt c1=some x/\Xn P Y.nt c2=some y:=by
  unfold Xn at hc
  split at hc<;>first
   | (split at hc<;>first|(simp at hc; obtain⟨rfl,rfl⟩:=hc; exact⟨_,_,rfl,by assumption,by assumption⟩)|(simp at hc; done)|((repeat' (split at hc))<;>simp at hc; done))
   | (simp at hc; done)
 obtain⟨c1,c2,rfl,h1,h2⟩:=this;refine wpIn_seq (Y2x (hk hY c1 h1 a w hs) fun x a w hp=>?_);rcases hp with⟨pre,e,hQ,hS⟩|⟨rfl,hS⟩
 . cases x with
   | normal=>exact hQ hY c2 h2 a w hS
   | _=>exact .inl ⟨pre,e,hQ,hS⟩
 . exact .inr ⟨rfl,hS⟩
theorem Z28 {c:Operand} {x y:X4} {b:Bool} (hc:ev e c=some (.val (.bool b))) (ht:b=true->jw P Y x Q pre e) (hf:b=false->jw P Y y Q pre e):jw P Y (.cond c x y) Q pre e:=by
 intro hY cc hcc a w hs;have:∃ c1 c2,cc=.cond c c1 c2/\Xn P Y.nt c1=some x/\Xn P Y.nt c2=some y:=by
  unfold Xn at hcc
  split at hcc<;>first
   | (split at hcc<;>first|(simp at hcc; obtain⟨rfl,rfl,rfl⟩:=hcc; exact⟨_,_,rfl,by assumption,by assumption⟩)|(simp at hcc; done)|((repeat' (split at hcc))<;>simp at hcc; done))
   | (simp at hcc; done)
 obtain⟨c1,c2,rfl,h1,h2⟩:=this;refine Y3S (hs.1.eval hs.2.1 hc).val_inv (fun hb=>ht hb hY c1 h1 a w hs) (fun hb=>hf hb hY c2 h2 a w hs)
theorem Z3l {id:Nat} {x:X4} (hk:jw P Y x (X58 id Q) pre e):jw P Y (.block id x) Q pre e:=by
 intro hY c hc a w hs;have:∃ c1,c=.block id c1/\Xn P Y.nt c1=some x:=by
  unfold Xn at hc
  split at hc<;>first
   | (split at hc<;>first|(simp at hc; obtain⟨rfl,rfl⟩:=hc; exact⟨_,rfl,by assumption⟩)|(simp at hc; done)|((repeat' (split at hc))<;>simp at hc; done))
   | (simp at hc; done)
 obtain⟨c1,rfl,h1⟩:=this;refine wpIn_block (Y2x (hk hY c1 h1 a w hs) fun x a w hp=>?_);rcases hp with⟨pre,e,hQ,hS⟩|⟨rfl,hS⟩
 . cases x with
   | exit id' =>
     simp only [X58] at hQ;simp only [Exit.inBlock];by_cases hid:id'=id
     . subst hid;have hb:Nat.beq id' id'=true:=by simp
       rw [hb] at hQ;rw [Y5 rfl];exact .inl ⟨pre,e,hQ,hS⟩
     . have hb : Nat.beq id' id = false := YB.2 fun hb => hid (YJ hb);rw [hb] at hQ;rw [Y6 hid];exact .inl ⟨pre,e,hQ,hS⟩
   | _=>exact .inl ⟨pre,e,hQ,hS⟩
 . exact .inr ⟨rfl,hS⟩
theorem Zfe {L:List (Nat×PV)} {b:Bool} (he:X2R e L) {a:Act} {w:World} (hs:JSt Y b pre e a w):JSt Y b pre (X1v L) a w:=⟨⟨hs.1.sz,hs.1.nd,fun k p hk=>hs.1.env k p (he.some hk)⟩,hs.2⟩
theorem Zb9 {X:Type} (I:X->Prop) (μ:X->Nat) (R:X->List α) (L:X->List (Nat×PV)) {body:X4} (x0:X) (h0:I x0) (hR:R x0=pre) (hL:X2R e (L x0))
 (round:∀ x,I x->jw P Y body (X5Z (fun pre' e'=>∃ x',I x'/\μ x'<μ x/\R x'=pre'/\X2R e' (L x')) Q) (R x) (X1v (L x))):jw P Y (.loop body) Q pre e:=by
 intro hY c hc a w hs;have:∃ c1,c=.loop c1/\Xn P Y.nt c1=some body:=by
  unfold Xn at hc
  split at hc<;>first
   | (split at hc<;>first|(simp at hc; subst hc; exact⟨_,rfl,by assumption⟩)|(simp at hc; done)|((repeat' (split at hc))<;>simp at hc; done))
   | (simp at hc; done)
 obtain⟨c1,rfl,h1⟩:=this
 let p:Act->World->Nat->Prop:=fun a w k=>∃ x,I x/\μ x=k/\JSt Y true (R x) (X1v (L x)) a w
 refine wpIn_loop (fun a w=>∃ k,p a w k) (fun a w=>least (p a w)) ⟨_,x0,h0,rfl,by rw [hR]; exact Zfe hL hs⟩ ?_;rintro a w ⟨k,hk⟩;obtain⟨⟨x,hx,hxk,hst⟩,_⟩:=Z47 hk;refine Y2x (round x hx hY c1 h1 a w hst) fun ex a' w' hp=>?_;rcases hp with⟨pre',e',hQ,hS⟩|⟨rfl,hS⟩
 . cases ex with
   | normal =>
     obtain⟨x',hx',hlt,rfl,hE⟩:=hQ;have hp':p a' w' (μ x'):=⟨x',hx',rfl,Zfe hE hS⟩
     refine⟨⟨_,hp'⟩,?_⟩;have:=(Z47 hp').2;omega
   | _=>exact .inl ⟨pre',e',hQ,hS⟩
 . exact .inr ⟨rfl,hS⟩
def X4g (P:Program) (Y:JC α):List Xl->List α->Env->(List α->Env->Prop)->Prop
 | [],pre,e,K=>K pre e
 | o :: os, pre, e, K => o.guard = none /\ ((∃ p, X1u o.op e = some p /\ X4g P Y os pre (Xy e o.dst p) K) \/
     (∃ f args g caps as0 v,o.op=.call f args/\ev e f=some (.fn g caps)/\evs e args=some as0/\X6 (as0++caps)/\Xa P g (as0++caps) (· = .val v)/\X4g P Y os pre (Xy e o.dst (.val v)) K))
theorem Z25 {os:List Xl} {d:Option Nat} {op:AOp} {p:PV} {K:List α->Env->Prop} (hq:X1u op e=some p) (hk:X4g P Y os pre (Xy e d p) K):X4g P Y (⟨d,op,none⟩ :: os) pre e K:=⟨rfl,.inl ⟨p,hq,hk⟩⟩
theorem Zff {os:List Xl} {d:Option Nat} {f:Operand} {args:List Operand} {g:FuncId} {caps as0 args':List PV} {v:Value} {K:List α->Env->Prop} (hs:Xa P g args' (· = .val v)) (hf:ev e f=some (.fn g caps)) (ha:evs e args=some as0) (hr:as0++caps=args') (hp:X6 args') (hk:X4g P Y os pre (Xy e d (.val v)) K):X4g P Y (⟨d,.call f args,none⟩ :: os) pre e K:=by
 subst hr;exact⟨rfl,.inr ⟨f,args,g,caps,as0,v,rfl,hf,ha,hp,hs,hk⟩⟩
theorem Z1V {K:List α->Env->Prop} (hk:K pre e):X4g P Y [] pre e K:=hk
theorem Below.grownN {A B:World} (h:Below A.heap.size A B):A.grownBy B none:=⟨h.os,h.tape,h.output,h.size,fun j hj _=>h.block j hj⟩
theorem ZdI {b:Bool} {a:Act} {w:World} (hs:JSt Y b pre e a w) {f:Operand} {args:Array Operand} {g:Nat} {caps as0:List PV} (hf:ev e f=some (.fn g caps)) (has:evs e args.toList=some as0):∃ vs,a.eval f=.func (.func g) #[] vs/\X1B Y.F Xw (args.map a.eval++vs) (as0++caps):=by
 let C:Ctx:=⟨w,fun _=>False,Y.F,Y.nt,fun _=>none⟩
 have s0:St' C (fun _=>True) e (fun _=>none) Y.F Xw a w:=by
  refine { nt := hs.1.sz, glob := hs.2.1.2, marks := X1l.nil hs.1.nd, loc0 := fun i x hx => (by cases hx), free := fun _ _ => rfl, env := hs.1.env, froz := hs.2.1.1, ext := fun _ _ h => h, old := fun _ _ _ => rfl, os := rfl, tape := rfl, output := rfl, size := Y0m _, kept := fun _ _ _ => rfl,
           live:=fun id b hb=>(by cases hb),sep:=fun i j bi bj li lj k hi=>(by cases hi) }
 exact Z46 s0 hf has
theorem Z7N (hY:Y.Ok P) {ops:Array Oper} {K:List α->Env->Prop}:∀ {l:List Oper} {al:List Xl},XC P Y.nt ops l=some al->∀ {pre:List α} {e:Env} {a:Act} {w:World},JSt Y true pre e a w->X4g P Y al pre e K ->
 ∀ {QQ:Exit->Act->World->Prop},(∀ pre e a w,K pre e->JSt Y true pre e a w->QQ .normal a w)->wpListIn Y.FN Y.m P ops QQ l a w:=by
 intro l
 induction l with
 | nil =>
   intro al hc pre e a w hs hk QQ hQ;obtain rfl : []=al:=by simpa [XC] using hc
   exact hQ pre e a w hk hs
 | cons o r ih =>
   intro al hc pre e a w hs hk QQ hQ;simp only [XC] at hc
   split at hc
   case h_2=>simp at hc
   rename_i ao al' ho hl;obtain rfl:ao :: al'=al:=by simpa using hc
   unfold X24 at ho
   split at ho
   case h_2=>simp at ho
   rename_i op g hop hg
   split at ho
   case isFalse=>simp at ho
   rename_i hdst;cases ho;simp only [X4g] at hk;obtain⟨hgn,hk⟩:=hk;subst hgn;have hgo:o.guard=none:=by
    unfold X3e at hg
    split at hg
    . assumption
    . split at hg
      . split at hg
        . cases hg
        . cases hg
      . cases hg
   simp only [wpListIn];rw [Y5 (by simp [Region.wanted,hgo])];refine⟨fun f _=>hY.fence.fn f,?_⟩;rw [Y2n Y.FN.round a.eval o (Z1S hop)];rcases hk with⟨p,hq,hk⟩|⟨f,args,g,caps,as0,v,hop',hf,has,hp,hsp,hk⟩
   . obtain ⟨val, hr, hrep⟩ := Zb8 hop hs.1 hs.2.1 hq;rw [hr];exact ih hl ⟨hs.1.putO hdst hrep,hs.2⟩ hk hQ
   . subst hop';obtain⟨⟨fn,hfn,hname,hbody⟩,hspec⟩:=hsp;obtain⟨c,hoc,hcal,hargs⟩:=Z3g hop;subst hargs;obtain⟨vs,hvf,hrep⟩:=ZdI hs hf has;have hrun:(execOp a.eval o).run P w=.ok (.enter g (c.args.map a.eval++vs)) w:=by
      have h1 : ¬ fn.name = "runtime.NumGoroutine" := by simpa using hname
      have h2:¬ fn.body=none:=fun h=>by rw [h] at hbody; simp at hbody
      simp [execOp,hoc,resolve,hcal,hvf,Deferred.ofValue,invoke,callFunc,hfn,h1,h2]
     rw [hrun];refine⟨fun hd=>by rw [hY.fence.depth] at hd; simp at hd,hY.fence.calls _ _ _ _ _ ((hspec Y.F w _ hs.2.1 hrep).mono ?_)⟩;rintro en w' ⟨v',r',F',rfl,rfl,hvr,hbel,hF',hext,hold⟩;obtain rfl:v'=v:=hvr.val_inv;refine ih hl ⟨hs.1.putO hdst (.val _),⟨fun x u hx=>⟨(hs.2.1.1 x u hx).1,(hs.2.1.1 x u hx).2.1,(hF'.1 x u (hext x u hx)).2.2⟩,hs.2.1.2⟩,hY.grow _ _ _ _ hs.2.2 (Below.grownN hbel)⟩ hk hQ
theorem Z7O {al:List Xl} {c:Code} (h:Xn P Y.nt c=some (.region al)):∃ id ops,c=.region id ops false/\XC P Y.nt ops ops.toList=some al:=by
 unfold Xn at h
 split at h<;>first
  | (simp at h; done)
  | (split at h
     . split at h
       . simp at h; subst h; exact⟨_,_,rfl,by assumption⟩
       . split at h<;>simp at h
     . simp at h)
  | (split at h<;>simp at h; done)
  | ((repeat' (split at h))<;>simp at h; done)
theorem Z2j {al:List Xl} (hk:X4g P Y al pre e (fun pre e=>Q .normal pre e)):jw P Y (.region al) Q pre e:=by
 intro hY c hc a w hs;obtain⟨id,ops,rfl,h1⟩:=Z7O hc;exact Y3I (Z7N hY h1 hs hk fun pre e a w hK hS=>.inl ⟨pre,e,hK,hS⟩)
theorem Z8E (ops:Array Oper) {l:List Oper}:∀ {al bl:List Xl},XC P Y.nt ops l=some (al++bl)->∃ l1 l2,l=l1++l2/\XC P Y.nt ops l1=some al/\XC P Y.nt ops l2=some bl:=by
 induction l with
 | nil =>
   intro al bl h;simp [XC] at h;obtain⟨rfl,rfl⟩:=h;exact⟨[],[],rfl,rfl,rfl⟩
 | cons o r ih =>
   intro al bl h;cases al with
   | nil=>exact⟨[],o :: r,rfl,rfl,h⟩
   | cons x al =>
     simp only [XC] at h
     split at h
     case h_2=>cases h
     rename_i a' l' h1 h2;simp at h;obtain⟨rfl,rfl⟩:=h;obtain⟨l1,l2,rfl,g1,g2⟩:=ih h2;exact⟨o :: l1,l2,rfl,by simp [XC,h1,g1],g2⟩
theorem ZZ {FN:Fence} {m:Nat} {ops:Array Oper} {QQ:Exit->Act->World->Prop}:∀ {l1 l2:List Oper} {a:Act} {w:World},wpListIn FN m P ops (fun x a w=>match x with | .normal=>wpListIn FN m P ops QQ l2 a w|x=>QQ x a w) l1 a w->wpListIn FN m P ops QQ (l1++l2) a w
 | [],l2,a,w,h=>h
 | o :: r, l2, a, w, h => by
   simp only [wpListIn,Y4w] at h ⊢
   split
   . rename_i hw;rw [Y5 hw] at h;obtain⟨h1,h2⟩:=h;refine⟨h1,?_⟩;unfold Oper.uponIn at h2 ⊢
     split at h2
     . exact ZZ h2
     . exact ZZ h2
     . exact ZZ h2
     . refine ⟨h2.1, h2.2.mono fun en w' hh => ?_⟩;cases en with
       | returned v=>exact ZZ hh
       | panicked chain=>exact hh
       | outgrown=>exact hh
     . exact⟨h2.1,h2.2.mono fun v w' hh=>ZZ hh⟩
     . refine ⟨h2.1, h2.2.mono fun en w' hh => ?_⟩;cases en with
       | returned v=>exact ZZ hh
       | panicked chain=>exact hh
       | outgrown=>exact hh
     . exact h2
     . exact h2
   . rename_i hw;rw [Y6 hw] at h;exact⟨h.1,ZZ h.2⟩
theorem Zhf (x:α) {al:List Xl} {d1 d2:Nat} {f:Operand} {args:List Operand} (hk:X4g P Y al pre e (fun pre' e'=>pre'=pre/\ev e' f=some (.val (.func (.yield Y.l) #[] #[]))/\evs e' args=some ((Y.encs x).map .val)/\pre.length<Y.N/\Y.Sp (pre ++ [x])/\Q .normal (pre ++ [x]) ((e'.upd d1 (.val (.bool true))).upd d2 (.val (.bool false))))) :
 jw P Y (.seq (.region (al ++ [⟨some d1,.call f args,none⟩,⟨some d2,.una .not (.tmp d1),none⟩])) (.cond (.tmp d2) .ret .skip)) Q pre e:=by
 intro hY c hc a w hs;have:∃ c1 c2,c=.seq c1 c2/\Xn P Y.nt c1=some (.region (al ++ [⟨some d1,.call f args,none⟩,⟨some d2,.una .not (.tmp d1),none⟩]))/\Xn P Y.nt c2=some (.cond (.tmp d2) .ret .skip):=by
  unfold Xn at hc
  split at hc<;>first
   | (split at hc<;>first|(simp at hc; obtain⟨rfl,rfl⟩:=hc; exact⟨_,_,rfl,by assumption,by assumption⟩)|(simp at hc; done)|((repeat' (split at hc))<;>simp at hc; done))
   | (simp at hc; done)
 obtain⟨c1,c2,rfl,h1,h2⟩:=this;have:∃ k1 k2,c2=.cond (.tmp d2) k1 k2/\Xn P Y.nt k1=some .ret/\Xn P Y.nt k2=some .skip:=by
  unfold Xn at h2
  split at h2<;>first
   | (split at h2<;>first|(simp at h2; obtain⟨rfl,rfl,rfl⟩:=h2; exact⟨_,_,rfl,by assumption,by assumption⟩)|(simp at h2; done)|((repeat' (split at h2))<;>simp at h2; done))
   | (simp at h2; done)
 obtain⟨k1,k2,rfl,g1,g2⟩:=this;have hk1:k1=.ret:=by
  unfold Xn at g1
  split at g1<;>first|rfl|(simp at g1; done)|((repeat' (split at g1))<;>simp at g1)
 have hk2:k2=.skip:=by
  unfold Xn at g2
  split at g2<;>first|rfl|(simp at g2; done)|((repeat' (split at g2))<;>simp at g2)
 subst hk1;subst hk2;obtain⟨id,ops,rfl,hops⟩:=Z7O h1;obtain⟨l1,l2,hl,ho1,ho2⟩:=Z8E ops hops;refine wpIn_seq (Y3I ?_);rw [hl];refine ZZ (Z7N hY ho1 hs hk fun pre' e' a' w' hK hS=>?_);obtain⟨rfl,hf,has,hlen,hSp,hQ⟩:=hK;cases l2 with
 | nil=>simp [XC] at ho2
 | cons o r =>
   simp only [XC] at ho2
   split at ho2
   case h_2=>cases ho2
   rename_i ao al' ho hl2;simp at ho2;obtain⟨rfl,rfl⟩:=ho2;cases r with
   | nil=>simp [XC] at hl2
   | cons o2 r2 =>
     simp only [XC] at hl2
     split at hl2
     case h_2=>cases hl2
     rename_i ao2 al2 hoo2 hl3;simp at hl2;obtain⟨rfl,rfl⟩:=hl2;have hr2:r2 = []:=by
      cases r2 with
      | nil=>rfl
      | cons x y=>simp only [XC] at hl3; split at hl3<;>simp at hl3
     subst hr2;have dst:∀ {oo:Oper} {d:Nat} {op:AOp},X24 P Y.nt ops oo=some ⟨some d,op,none⟩->oo.dst=some d/\d<Y.nt/\oo.guard=none/\cOp P oo=some op:=by
      intro oo d op h;unfold X24 at h
      split at h
      case h_2=>simp at h
      rename_i op' g hop hg
      split at h
      case isFalse=>simp at h
      rename_i hd;simp at h;obtain⟨hd1,rfl,rfl⟩:=h;refine⟨hd1,by rw [hd1] at hd; simpa [X2u] using hd,?_,hop⟩;unfold X3e at hg
      split at hg
      . assumption
      . split at hg
        . split at hg
          . cases hg
          . cases hg
        . cases hg
     obtain⟨hd1,hlt1,hgd1,hop1⟩:=dst ho;obtain⟨hd2,hlt2,hgd2,hop2⟩:=dst hoo2;obtain⟨cc,hoc,hcal,hargs⟩:=Z3g hop1;have hun:∃ uop t,o2.op=.unOp uop t (.tmp d1)/\uop=.not:=by
      unfold cOp at hop2
      split at hop2<;>first
       | (rename_i uop t x' ho'; simp at hop2; obtain⟨rfl,rfl⟩:=hop2; exact⟨_,_,ho',rfl⟩)
       | (simp at hop2; done)
       | ((repeat' (split at hop2))<;>simp at hop2; done)
     obtain⟨_,ut,hu2,rfl⟩:=hun;have hvf:=(hS.1.eval hS.2.1 hf).val_inv;have hvs:cc.args.map a'.eval=(Y.encs x).toArray:=by
      have hev:∀ {xs:List Operand} {vs:List Value},evs e' xs=some (vs.map .val)->xs.map a'.eval=vs:=by
       intro xs
       induction xs with
       | nil => intro vs h; cases vs with
         | nil=>rfl
         | cons _ _=>simp [evs] at h
       | cons y ys ih =>
         intro vs h;simp only [evs] at h
         split at h
         case h_2=>cases h
         rename_i p l hp hl;cases vs with
         | nil=>simp at h
         | cons v vs =>
           simp at h;obtain⟨rfl,rfl⟩:=h;simp only [Y20];rw [(hS.1.eval hS.2.1 hp).val_inv,ih hl]
      have h0:=hev (xs:=cc.args.toList) (by rw [hargs]; exact has);apply Y4N;simpa using h0
     obtain⟨fn,tmps,assign,body,hyr,hR⟩:=hY.yield pre' x w' hS.2.2 hlen;have hrun:(execOp a'.eval o).run P w'=.ok (.round Y.l fn tmps assign body) w':=by
      have:execOp a'.eval o=Instr.yield Y.l (cc.args.map a'.eval):=by
       simp [execOp,hoc,resolve,hcal,hvf,Deferred.ofValue,invoke]
      rw [this,hvs];exact hyr
     simp only [wpListIn];rw [Y5 (by simp [Region.wanted,hgd1])];refine⟨fun f _=>hY.fence.fn f,?_⟩;rw [Y2n Y.FN.round a'.eval o (Z1S hop1),hrun];refine⟨fun hd=>by rw [hY.fence.depth] at hd; simp at hd,hR.mono ?_⟩;have step:∀ (bb:Bool) (w3:World),(wpListIn Y.FN Y.m P ops (Exit.then ((Code.cond (.tmp d2) .ret .skip).wpIn Y.FN Y.m P (X4n Y Q)) (X4n Y Q)) [] ((a'.put (some d1) (.bool bb)).put (some d2) (.bool (!bb))) w3) ->
      wpListIn Y.FN Y.m P ops (Exit.then ((Code.cond (.tmp d2) .ret .skip).wpIn Y.FN Y.m P (X4n Y Q)) (X4n Y Q)) [o2] (a'.put o.dst (.bool bb)) w3:=by
      intro bb w3 h3;simp only [wpListIn];rw [Y5 (by simp [Region.wanted,hgd2])];refine⟨fun f _=>hY.fence.fn f,?_⟩;have hv1:(a'.put o.dst (.bool bb)).eval (.tmp d1)=.bool bb:=by
       rw [hd1];show (a'.tmps.setIfInBounds d1 (.bool bb)).getD d1 undef=.bool bb;rw [Z18 _ _ _ _ (by rw [hS.1.sz]; exact hlt1)];simp
      have hex:(execOp (a'.put o.dst (.bool bb)).eval o2).run P w3=.ok (.value (.bool (!bb))) w3:=by
       simp only [execOp,hu2,hv1];cases bb<;>simp [Op.unary]
      rw [Y2n Y.FN.round _ o2 (Z1S hop2),hex];simp only [Oper.uponIn];rw [hd2];rw [hd1];exact h3
     have ev2:∀ bb:Bool,((a'.put (some d1) (.bool bb)).put (some d2) (.bool (!bb))).eval (.tmp d2)=.bool (!bb):=by
      intro bb;show ((a'.tmps.setIfInBounds d1 (.bool bb)).setIfInBounds d2 (.bool (!bb))).getD d2 undef=.bool (!bb);rw [Z18 _ _ _ _ (by simp [hS.1.sz]; exact hlt2)];simp
     rintro en w3 (⟨rfl,hK,hkp⟩|⟨rfl,hK⟩)
     . refine step true w3 (Y3S (t := false) (ev2 true) (fun h => by cases h) fun _ => wpIn_skip (.inl ⟨_, _, hQ, ?_, ?_, hK⟩))
       . exact (hS.1.put hlt1 (.val _)).put hlt2 (.val _)
       . exact⟨fun y u hy=>⟨(hS.2.1.1 y u hy).1,(hS.2.1.1 y u hy).2.1,hkp.1 y u hy (hS.2.1.1 y u hy).2.2⟩,hS.2.1.2⟩
     . exact step false w3 (Y3S (t:=true) (ev2 false) (fun _=>wpIn_ret (.inr ⟨rfl,_,hSp,hK,hS.1.nd⟩)) fun h=>by cases h)
theorem ZdJ {f nt:Nat} {ac:X4} (hf:X3R P f nt ac []) {caps:List PV} {encs:α->List Value} {S Sp:List α->Prop} {M:Nat} (hn:caps.length+1<=nt)
 (hk:∀ Y:JC α,Y.N=M->Y.encs=encs->Y.Sp=Sp->Y.nt=nt->jw P Y ac (fun x pre _=>(x=.normal \/ x=.ret)/\S pre) [] (XQ (.val (.func (.yield Y.l) #[] #[]) :: caps))):X4r P f caps encs S Sp M:=by
 obtain⟨hm,fn,c,hfn,hname,hb,rfl,hc,hr⟩:=hf;refine⟨⟨fn,hfn,hname,by rw [hb]; rfl⟩,fun F w lb FN m hok hF hrep=>?_⟩;intro l J Jx W hbel hJ hJx hyield h0;have hres:fn.results = #[]:=by
  cases hl:fn.results.toList with
  | nil=>simpa using hl
  | cons r rs =>
    rw [hl] at hr;simp only [X2S] at hr
    split at hr<;>simp at hr
 show CallsIn FN.plain m P f _ W _;refine callsIn_of_wp hfn hb (hok.fn f) ?_ rfl
 let Y:JC α:=⟨FN.plain,m,fn.ntmps,F,W.heap.size,fun b pre W'=>if b=true then J pre W' else Jx pre W',l,M,encs,Sp⟩
 have hY:Y.Ok P:=by
  refine⟨⟨hok.fn,hok.depth,fun P f args w R h=>hok.calls P f args w R h⟩,rfl,?_,?_⟩
  . intro b pre W1 W2 hK hg;cases b with
    | true=>exact hJ pre W1 W2 none hK hg (fun r hr=>by cases hr)
    | false=>exact hJx pre W1 W2 none hK hg (fun r hr=>by cases hr)
  . intro pre x W1 hK hlen;obtain⟨fn',tmps,assign,body,h1,h2⟩:=hyield pre x W1 hK hlen;refine⟨fn',tmps,assign,body,h1,?_⟩;have h2':=h2.mono (R':=fun e W'=>(e=.returned (.bool true)/\Y.K true (pre ++ [x]) W'/\KpF Y.F W1 W') \/ (e=.returned (.bool false)/\Y.K false (pre ++ [x]) W')) (fun en W' h=>h);exact h2'
 have hsz:lb.size=caps.length:=hrep.1
 have hFW:Holds F W:=⟨fun x v hx=>by
  obtain⟨g1,g2,g3⟩:=hF.1 x v hx
  exact⟨g1,g2,by rw [Y2G (w:=w) (hbel.block x.block (Y3J g3))]; exact g3⟩,hF.2⟩
 have hS:JSt Y true [] (XQ (.val (.func (.yield l) #[] #[]) :: caps)) { tmps:=(#[.func (.yield l) #[] #[]]++lb)++Array.replicate (fn.ntmps-(#[Value.func (.yield l) #[] #[]]++lb).size) undef,defers := [] } W:=by
  refine⟨⟨by simp [Y]; omega,rfl,fun k p hp=>?_⟩,hFW,h0⟩;have hk:k<caps.length+1:=by have:=(Y8.1 hp).1; simpa using this
  refine⟨by simp only [Y]; omega,?_⟩;cases k with
  | zero =>
    simp [XQ] at hp;subst hp;have e0:((#[Value.func (.yield l) #[] #[]]++lb)++Array.replicate (fn.ntmps-(#[Value.func (.yield l) #[] #[]]++lb).size) undef).getD 0 undef=.func (.yield l) #[] #[]:=by
     simp only [Y0d];rw [YS (by simp;omega),YS (by simp)]
     rfl
    show Rep F Xw (((#[Value.func (.yield l) #[] #[]]++lb)++Array.replicate (fn.ntmps-(#[Value.func (.yield l) #[] #[]]++lb).size) undef).getD 0 undef) _;rw [e0];exact .val _
  | succ k =>
    have hk':k<caps.length:=by omega
    have e1:((#[Value.func (.yield l) #[] #[]]++lb)++Array.replicate (fn.ntmps-(#[Value.func (.yield l) #[] #[]]++lb).size) undef).getD (k+1) undef=lb.getD k undef:=by
     simp only [Y0d];rw [YS (by simp;omega),Y1q (by simp)];simp
    have e2:caps.getD k pvu=p:=by
     have hp':caps[k]?=some p:=by simpa [XQ] using hp
     rw [Y0b,hp']; rfl
    rw [e1,<- e2];exact hrep.2 k hk'
 refine Y2x (hk Y rfl rfl rfl rfl hY c hc _ W hS) fun x a' w' hp=>?_;have hres':∀ tmps,(results fn tmps).run P w'=.ok (.tuple #[]) w':=fun tmps=>by simp [results,hres]
 rcases hp with⟨pre,e,⟨hx,hSp⟩,hS'⟩|⟨rfl,pre,hsp,hK,hd⟩
 . have fin : a'.defers = [] /\ ∃ v, (results fn a'.tmps).run P w' = .ok v w' /\ ((∃ v', Ending.returned v = Ending.returned v') /\ ((∃ xs, S xs /\ J xs w') \/ ∃ pre, Sp pre /\ Jx pre w')) :=
    ⟨hS'.1.nd,_,hres' _,⟨_,rfl⟩,.inl ⟨pre,hSp,hS'.2.2⟩⟩
   rcases hx with rfl|rfl
   . exact fin
   . exact fin
 . exact⟨hd,_,hres' _,⟨_,rfl⟩,.inr ⟨pre,hsp,hK⟩⟩
end
end
end Go.Proofs.YtbfbcdjjhhcbaaaGreatDoor
