/-
  Merged from the texts that this claim's theorem needs, part 3 of 8. No statement of the seat is proved here.
-/
import Derived.IntWalk
import Derived.KernelRfl
import Derived.Test.YtoolafpiaobphaaGreatDoorChecked
import Derived.WalkSmall
import Derived.Test.YtoolafpiaobphaaGreatDoorMq1
set_option linter.unusedSimpArgs false
set_option linter.unusedVariables false
set_option linter.unusedSectionVars false
set_option linter.defProp false
set_option maxRecDepth 100000
set_option maxHeartbeats 16000000
namespace Go.Proofs.YtoolafpiaobphaaGreatDoor
section
set_option maxRecDepth 100000
theorem mixed : Tryz.prog.follows .mixedOrders = true := by kernel_rfl
theorem fI (n : Nat) : Int.ofNat (no_index (OfNat.ofNat n)) = @OfNat.ofNat Int n instOfNat := rfl
theorem fM : Int.negSucc 0 = -1 := rfl
theorem Xm {f nt : Nat} {fn : Func} {ac : X6} {rs : List X2g} (hf : Tryz.prog.funcs[f]? = some fn) (hnt : fn.ntmps = nt) (hn : (fn.name == "runtime.NumGoroutine") = false := by kernel_rfl) (hc : X4v Tryz.prog nt fn.body = some ac := by conv => { lhs; reduce; try dsimp only [fI, fM] }) (hr : X2Z Tryz.prog fn.results.toList = some rs := by conv => { lhs; reduce; try dsimp only [fI] }) : X3O Tryz.prog f nt ac rs := Zr mixed hf hn hnt hc hr
def ok3 := Xm Tryz.func3 Tryz.ntmps3
abbrev tT (n : Nat) : Operand := .tmp n
abbrev oO (d : Nat) (p : AOp) : Xs := ⟨some d, p, none⟩
abbrev oT (g d : Nat) (p : AOp) : Xs := ⟨some d, p, some (g, true)⟩
abbrev oF (g d : Nat) (p : AOp) : Xs := ⟨some d, p, some (g, false)⟩
abbrev oM (d a : Nat) : Xs := ⟨some d, .mov (.tmp a), none⟩
abbrev nS : Value := .slice none 0 0
abbrev kI (n : Int) : Operand := .const (.int .i64 n)
abbrev kT : Operand := .const (.bool true)
abbrev kF : Operand := .const (.bool false)
abbrev kC (f : FuncId) (l : List Operand) : AOp := .call (.func f) l
abbrev sQ (x y : X6) : X6 := .seq x y
abbrev Yl (d n a : Nat) : Xs := ⟨some d, .load true n (.tmp a), none⟩
abbrev Yk (d a : Nat) : Xs := ⟨some d, .load false 1 (.tmp a), none⟩
abbrev Ya (d k a : Nat) : Xs := ⟨some d, .faddr k (.tmp a), none⟩
abbrev Yc (d f : Nat) (l : List Operand) : Xs := ⟨some d, .call (.func f) l, none⟩
abbrev Yb (d a : Nat) : Xs := ⟨some d, .box (.tmp a), none⟩
abbrev Yi (d e a b : Nat) : Xs := ⟨some d, .iaddr e (.tmp a) (.tmp b), none⟩
abbrev Yn (d a : Nat) : Xs := ⟨some d, .len (.tmp a), none⟩
abbrev Yx (d a k : Nat) : Xs := ⟨some d, .extract (.tmp a) k, none⟩
abbrev Ys (n a b : Nat) : Xs := ⟨none, .store n (.tmp a) (.tmp b), none⟩
abbrev Yd (i : Nat) (o : Xs) (m f : Nat) : Xd := ⟨i, o, m, f, false⟩
abbrev Yr (l : List Xs) (x : X6) : X6 := .seq (.region l) x
abbrev Yg (l : List Xs) : X6 := .region l
abbrev Yo (d : Nat) (b : BinOp) (x y : Operand) : Xs := ⟨some d, .bin b .num x y, none⟩
abbrev Ym (d a b : Nat) : Xs := ⟨some d, .pick (.tmp a) (.tmp b) (.const (.bool false)), none⟩
abbrev Yq (d a b : Nat) : Xs := ⟨some d, .pick (.tmp a) (.const (.bool true)) (.tmp b), none⟩
abbrev Yz (d : Nat) (l : List Value) : Xs := ⟨some d, .alloc l, none⟩
abbrev Yh (d a : Nat) : Xs := ⟨some d, .una .not (.tmp a), none⟩
abbrev Yj (d : Nat) (x : Operand) : Xs := ⟨some d, .mov x, none⟩
abbrev nP : Value := .pointer none
abbrev z0 : Value := .int .i64 0
abbrev kB (n : Int) : Operand := .const (.int .u8 n)
abbrev kW (n : Int) : Operand := .const (.int .u64 n)
abbrev Yu : Value := .int .u8 0
abbrev Y5 : Value := .int .u64 0
abbrev Y1 : List Value := [Yu,Yu,Yu,Yu,Yu,Yu,Yu,Yu,Yu,Yu,Yu,Yu,Yu,Yu,Yu,Yu,Yu,Yu,Yu,Yu,Yu,Yu,Yu,Yu,Yu,Yu,Yu,Yu,Yu,Yu,Yu,Yu]
abbrev Y2 : List Value := [Yu,Yu,Yu,Yu,Yu,Yu,Yu,Yu,Yu,Yu,Yu,Yu,Yu,Yu,Yu,Yu,Yu,Yu,Yu,Yu,Yu,Yu,Yu,Yu,Yu,Yu,Yu,Yu,Yu,Yu,Yu,Yu,.bool false,.slice none 0 0,.slice none 0 0]
abbrev Yv (n : Nat) : PV := .val (.int .i64 (n : Int))
abbrev Y3 : List Nat := [0,0,0,0,0,0,0,0,0,0,0,0,0,0,0,0,0,0,0,0,0,0,0,0,0,0,0,0,0,0,0,0]
abbrev k0:Operand:=.tmp 0
abbrev k1:Operand:=.tmp 1
abbrev k2:Operand:=.tmp 2
abbrev k3:Operand:=.tmp 3
abbrev k4:Operand:=.tmp 4
abbrev k5:Operand:=.tmp 5
abbrev k6:Operand:=.tmp 6
abbrev k7:Operand:=.tmp 7
abbrev k8:Operand:=.tmp 8
abbrev k9:Operand:=.tmp 9
abbrev k10:Operand:=.tmp 10
abbrev k11:Operand:=.tmp 11
abbrev k12:Operand:=.tmp 12
abbrev k13:Operand:=.tmp 13
abbrev k14:Operand:=.tmp 14
abbrev k15:Operand:=.tmp 15
abbrev k16:Operand:=.tmp 16
abbrev k17:Operand:=.tmp 17
abbrev k18:Operand:=.tmp 18
abbrev k19:Operand:=.tmp 19
abbrev k20:Operand:=.tmp 20
abbrev k21:Operand:=.tmp 21
abbrev k22:Operand:=.tmp 22
abbrev k23:Operand:=.tmp 23
abbrev k24:Operand:=.tmp 24
abbrev k25:Operand:=.tmp 25
abbrev k26:Operand:=.tmp 26
abbrev k27:Operand:=.tmp 27
abbrev k28:Operand:=.tmp 28
abbrev k29:Operand:=.tmp 29
abbrev k30:Operand:=.tmp 30
abbrev k31:Operand:=.tmp 31
abbrev k32:Operand:=.tmp 32
abbrev k33:Operand:=.tmp 33
abbrev k34:Operand:=.tmp 34
abbrev k35:Operand:=.tmp 35
abbrev k36:Operand:=.tmp 36
abbrev k37:Operand:=.tmp 37
abbrev k38:Operand:=.tmp 38
abbrev k39:Operand:=.tmp 39
abbrev k40:Operand:=.tmp 40
abbrev k41:Operand:=.tmp 41
abbrev k42:Operand:=.tmp 42
abbrev k43:Operand:=.tmp 43
abbrev k44:Operand:=.tmp 44
abbrev k45:Operand:=.tmp 45
abbrev k46:Operand:=.tmp 46
abbrev k47:Operand:=.tmp 47
abbrev k48:Operand:=.tmp 48
abbrev k49:Operand:=.tmp 49
abbrev k50:Operand:=.tmp 50
abbrev k51:Operand:=.tmp 51
abbrev k52:Operand:=.tmp 52
abbrev k53:Operand:=.tmp 53
abbrev k54:Operand:=.tmp 54
abbrev k55:Operand:=.tmp 55
abbrev k56:Operand:=.tmp 56
abbrev k57:Operand:=.tmp 57
abbrev k58:Operand:=.tmp 58
abbrev k59:Operand:=.tmp 59
abbrev k60:Operand:=.tmp 60
abbrev k61:Operand:=.tmp 61
abbrev k62:Operand:=.tmp 62
abbrev k63:Operand:=.tmp 63
abbrev k64:Operand:=.tmp 64
abbrev k65:Operand:=.tmp 65
abbrev k66:Operand:=.tmp 66
abbrev k67:Operand:=.tmp 67
abbrev k68:Operand:=.tmp 68
abbrev k69:Operand:=.tmp 69
abbrev k70:Operand:=.tmp 70
abbrev k71:Operand:=.tmp 71
abbrev k72:Operand:=.tmp 72
abbrev k73:Operand:=.tmp 73
abbrev k74:Operand:=.tmp 74
abbrev k75:Operand:=.tmp 75
abbrev k76:Operand:=.tmp 76
abbrev k77:Operand:=.tmp 77
abbrev k78:Operand:=.tmp 78
abbrev k79:Operand:=.tmp 79
abbrev k80:Operand:=.tmp 80
abbrev k81:Operand:=.tmp 81
abbrev k82:Operand:=.tmp 82
abbrev k83:Operand:=.tmp 83
abbrev k84:Operand:=.tmp 84
abbrev k85:Operand:=.tmp 85
abbrev k86:Operand:=.tmp 86
abbrev k87:Operand:=.tmp 87
abbrev k88:Operand:=.tmp 88
abbrev k89:Operand:=.tmp 89
abbrev k90:Operand:=.tmp 90
abbrev k91:Operand:=.tmp 91
abbrev k92:Operand:=.tmp 92
abbrev k93:Operand:=.tmp 93
abbrev k94:Operand:=.tmp 94
abbrev k95:Operand:=.tmp 95
abbrev k96:Operand:=.tmp 96
abbrev k97:Operand:=.tmp 97
abbrev k99:Operand:=.tmp 99
abbrev X8P:Operand:=.tmp 100
abbrev X8p:Operand:=.tmp 101
abbrev X7m:Operand:=.tmp 102
abbrev X7i:Operand:=.tmp 103
abbrev X6O:Operand:=.tmp 104
abbrev X84:Operand:=.tmp 105
abbrev X79:Operand:=.tmp 106
abbrev X7I:Operand:=.tmp 107
abbrev X7G:Operand:=.tmp 108
abbrev X7n:Operand:=.tmp 109
abbrev X7F:Operand:=.tmp 110
abbrev X7V:Operand:=.tmp 111
abbrev X8O:Operand:=.tmp 112
abbrev X7D:Operand:=.tmp 113
abbrev X86:Operand:=.tmp 114
abbrev X72:Operand:=.tmp 115
abbrev X7b:Operand:=.tmp 116
abbrev X7C:Operand:=.tmp 117
abbrev X8N:Operand:=.tmp 118
abbrev X8A:Operand:=.tmp 119
abbrev X75:Operand:=.tmp 120
abbrev X7M:Operand:=.tmp 121
abbrev X7H:Operand:=.tmp 122
abbrev X7W:Operand:=.tmp 124
abbrev X83:Operand:=.tmp 125
abbrev X7K:Operand:=.tmp 126
abbrev X7z:Operand:=.tmp 127
abbrev X77:Operand:=.tmp 128
abbrev X7v:Operand:=.tmp 129
abbrev X7g:Operand:=.tmp 130
abbrev X7N:Operand:=.tmp 132
abbrev X7x:Operand:=.tmp 133
abbrev X7P:Operand:=.tmp 134
abbrev X7O:Operand:=.tmp 135
abbrev X8t:Operand:=.tmp 137
abbrev X74:Operand:=.tmp 138
abbrev X7l:Operand:=.tmp 139
abbrev X7U:Operand:=.tmp 141
abbrev X7Y:Operand:=.tmp 142
abbrev X7S:Operand:=.tmp 144
abbrev X8v:Operand:=.tmp 145
abbrev X8e:Operand:=.tmp 146
abbrev X8s:Operand:=.tmp 147
abbrev X8C:Operand:=.tmp 148
abbrev X8h:Operand:=.tmp 149
abbrev X8I:Operand:=.tmp 150
abbrev X8D:Operand:=.tmp 152
abbrev X8f:Operand:=.tmp 154
abbrev X8U:Operand:=.tmp 156
abbrev X8b:Operand:=.tmp 157
abbrev X8X:Operand:=.tmp 158
abbrev X8z:Operand:=.tmp 159
abbrev X8j:Operand:=.tmp 161
abbrev X8g:Operand:=.tmp 162
abbrev X8L:Operand:=.tmp 163
abbrev X8H:Operand:=.tmp 166
abbrev X8x:Operand:=.tmp 167
abbrev X8G:Operand:=.tmp 168
abbrev X8B:Operand:=.tmp 169
abbrev X8S:Operand:=.tmp 171
abbrev X8i:Operand:=.tmp 173
abbrev X8l:Operand:=.tmp 176
abbrev X8n:Operand:=.tmp 177
abbrev X8K:Operand:=.tmp 178
abbrev X8k:Operand:=.tmp 179
abbrev X8u:Operand:=.tmp 180
abbrev X8F:Operand:=.tmp 181
abbrev q0:Operand:=.const (.int .i64 0)
abbrev q1:Operand:=.const (.int .i64 1)
abbrev q2:Operand:=.const (.int .i64 2)
abbrev q3:Operand:=.const (.int .i64 3)
abbrev q4:Operand:=.const (.int .i64 4)
abbrev q5:Operand:=.const (.int .i64 5)
abbrev q6:Operand:=.const (.int .i64 6)
abbrev q7:Operand:=.const (.int .i64 7)
abbrev q8:Operand:=.const (.int .i64 8)
abbrev q10:Operand:=.const (.int .i64 10)
abbrev q15:Operand:=.const (.int .i64 15)
abbrev q16:Operand:=.const (.int .i64 16)
abbrev q17:Operand:=.const (.int .i64 17)
abbrev q20:Operand:=.const (.int .i64 20)
abbrev q24:Operand:=.const (.int .i64 24)
abbrev q25:Operand:=.const (.int .i64 25)
abbrev q32:Operand:=.const (.int .i64 32)
abbrev q60:Operand:=.const (.int .i64 60)
abbrev q64:Operand:=.const (.int .i64 64)
abbrev Y4 := X3O Tryz.prog
theorem Yf {f nt : Nat} {fn : Func} {ac : X6} {rs : List X2g} (hf : Tryz.prog.funcs[f]? = some fn) (hnt : fn.ntmps = nt) (hn : (fn.name == "runtime.NumGoroutine") = false := by kernel_rfl) (hc : X4v Tryz.prog nt fn.body = some ac := by kernel_rfl) (hr : X2Z Tryz.prog fn.results.toList = some rs := by kernel_rfl)   : X3O Tryz.prog f nt ac rs := Zr mixed hf hn hnt hc hr
theorem Yp {P : Program} {f nt : Nat} {ac : X6} {rs : List X2g} (hf : X3O P f nt ac rs) {args : List PV} {R : PV → Prop} (hk : ∀ C : Ctx, C.dom 0 → aw P C ac (X85 rs R) 0 (XV args) (fun _ => none)) (hn : args.length ≤ nt := by exact Y0 rfl) : X7 P f args R := Z3 hf hn hk
def ir4:X6:=(Yr [Yj 0 kF] (Yr [Yc 12 11 [],oO 13 (.bslice [z0] 1 [(0,q3)]),Yc 14 12 [k13],oO 15 (.build [nS,nS] [(0,1,k14)]),oO 16 (.bslice [nS,nS] 1 [(0,k15)]),oO 17 (.build [(.bool false),nS,nS,z0,
 z0] [(3,1,q1)]),oO 18 (.bslice [z0] 1 [(0,q1)]),Yc 19 12 [k18],oO 20 (.build [nS,nS] [(0,1,k19)]),oO 21 (.build [(.bool false),nS,nS,z0,z0] [(3,1,q2),(1,2,k20)]),oO 22 (.bslice [z0] 1 [(0,q2)]),Yc 23 12 [k22],
 oO 24 (.bslice [z0] 1 [(0,q1)]),Yc 25 12 [k24],oO 26 (.build [nS,nS] [(0,1,k23),(1,1,k25)]),oO 27 (.build [(.bool false),nS,nS,z0,z0] [(3,1,q3),(1,2,k26)]),oO 28 (.build [(.bool false),nS,nS,z0,z0] [(0,
 1,kT),(3,1,q1)]),oO 29 (.bslice [(.bool false),nS,nS,z0,z0] 4 [(0,k17),(1,k21),(2,k27),(3,k28)]),oO 30 (.build [z0,nP,nS,nS,nS,nS] [(0,1,q3),(1,1,k12),(5,1,k16),(3,1,k29)]),Yz 1 [z0,nP,nS,nS,nS,nS],Ys 6 1 30] (sQ (.draw [Yd 0 (Yc 31 11 []) 0 0,
 Yd 1 (oO 32 (.bslice [z0] 1 [(0,q1)])) 0 0,Yd 2 (Yc 33 12 [k32]) 3 0,Yd 3 (Ya 34 5 1) 0 1,Yd 4 (Yk 35 34) 8 1,Yd 5 (oO 36 (.bslice [z0] 1 [(0,q1)])) 0 0,Yd 6 (Yc 37 12 [k36]) 39 0,Yd 7 (oO 38 (.build [nS,
 nS] [(0,1,k37)])) 103 0,Yd 8 (oO 39 (.build [(.bool false),nS,nS,z0,z0] [(3,1,q2),(1,2,k38)])) 231 0,Yd 9 (oO 40 (.bslice [(.bool false),nS,nS,z0,z0] 1 [(0,k39)])) 487 0,Yd 10 (oO 41 (.build [z0,nP,nS,
 nS,nS,nS] [(0,1,q3),(1,1,k31),(2,1,k33),(5,1,k35),(3,1,k40)])) 1023 1,Yd 11 (Yz 2 [z0,nP,nS,nS,nS,nS]) 0 0,Yd 12 (Ys 6 2 41) 4095 1]) (Yr [Yl 43 6 1,Yc 44 13 [k43,kI 2000],oM 42 44,Yx 45 42 0,Yx 46 42 1,
 Yx 47 42 2,Yz 3 Y2,Ys 35 3 45,oM 4 46,oM 5 47] (Yr [Yl 49 6 2,Yc 50 13 [k49,kI 2000],oM 48 50,Yx 51 48 0,Yx 52 48 1,Yx 53 48 2,Yz 6 Y2,Ys 35 6 51,oM 7 52,oM 8 53] (Yr [Yl 55 6 1,Ya 56 33 3,Yk 57 56,Yc 58 14 [k55,
 k57],oM 54 58,Yx 59 54 0,Yx 60 54 1,Yx 61 54 2,Yz 9 [nS],Ys 1 9 59,oM 10 60,oM 11 61] (Yr [oM 62 5,Yo 63 .eql k62 q0,oM 64 63,oT 64 65 (.faddr 32 k3),oT 64 66 (.load false 1 k65),Ym 67 64 66,oM 68 67,oT 68 69 (.mov k4),
 oT 68 70 (.bin .eql .num k69 (kB 2)),Ym 71 68 70,oM 72 71,oT 72 73 (.mov k11),Ym 74 72 73,oM 75 74,oT 75 76 (.load true 6 k1),oT 75 77 (.load true 1 k9),oT 75 78 (kC 15 [k76,k77]),Ym 79 75 78,oM 80 79,
 oT 80 81 (.mov k8),oT 80 82 (.bin .eql .num k81 q0),Ym 83 80 82,oM 84 83,oT 84 85 (.faddr 32 k6),oT 84 86 (.load false 1 k85),oT 84 87 (.una .not k86),Ym 88 84 87,oM 89 88,oT 89 90 (.mov k7),oT 89 91 (.bin .eql .num k90 (kB 1)),
 Ym 92 89 91,oM 93 92,oT 93 94 (.faddr 34 k6),oT 93 95 (.load false 1 k94),oT 93 96 (.len k95),oT 93 97 (.bin .gtr .num k96 q0),Ym 98 93 97,oM 0 98] .ret)))))))
theorem ok4:Y4 4 99 ir4 [.tmp 0]:=Yf Tryz.func4 Tryz.ntmps4
def ir5:X6:=(Yr [Yz 2 [z0,nP,nS,nS,nS,nS],oO 3 (.alloc [z0,nS,Y5,nS,nS,nS]),Yj 4 kF] (Yr [oM 8 0,Yc 9 16 [k8],oO 5 (.alloc [z0,nS,Y5,nS,nS,nS]),Ys 6 5 9] (Yr [Yl 11 6 5,Yc 12 17 [k11],oM 10 12,Yx 13 10 0,
 Yx 14 10 1,Yz 6 [z0,nP,nS,nS,nS,nS],Ys 6 6 13,oM 7 14] (sQ (.draw [Yd 0 (Yl 15 6 6) 0 0,Yd 1 (Yl 16 6 5) 0 0,Yd 2 (oM 17 7) 0 0,Yd 3 (Ys 6 2 15) 1 2,Yd 4 (Ys 6 3 16) 11 1,Yd 5 (oM 4 17) 31 1]) .ret))))
theorem ok5:Y4 5 18 ir5 [.cell 2 true 6,.cell 3 true 6,.tmp 4]:=Yf Tryz.func5 Tryz.ntmps5
def ir6:X6:=(Yr [Yb 1 0,Yz 2 [z0,nP,nS,nS,nS,nS],oO 3 (.mov (.const nS)),Yj 4 q0] (sQ (Yr [Yl 14 6 1,Yc 15 18 [k14],oM 5 15] (Yr [oM 16 5,Yo 17 .neq k16 q0] (.cond k17 (Yr [oO 18 (.build [z0,nP,nS,nS,
 nS,nS] []),oM 19 5,Ys 6 2 18,oO 3 (.mov (.const nS)),oM 4 19] .ret) .skip))) (Yr [Yl 20 6 1,Yc 21 19 [k20],Yz 6 [nS],Ys 1 6 21] (Yr [Yl 22 6 1,Yc 23 20 [k22],Yz 7 [z0,nP,nS,nS,nS,nS],Ys 6 7 23] (sQ (.draw [Yd 0 (Ya 24 0 7) 0 0,
 Yd 1 (Yk 25 24) 1 0,Yd 2 (Ya 26 1 7) 0 0,Yd 3 (Yk 27 26) 4 0,Yd 4 (Ya 28 2 7) 0 0,Yd 5 (Yl 29 1 28) 16 0,Yd 6 (Yl 30 1 6) 0 0,Yd 7 (Yc 31 21 [k29,k30]) 112 0,Yd 8 (Ya 32 5 7) 0 0,Yd 9 (Yk 33 32) 256 0,
 Yd 10 (oO 34 (.build [z0,nP,nS,nS,nS,nS] [(0,1,k25),(1,1,k27),(2,1,k31),(5,1,k33)])) 1023 1,Yd 11 (Yz 8 [z0,nP,nS,nS,nS,nS]) 0 0,Yd 12 (Ys 6 8 34) 4095 1]) (Yr [oO 9 (.mov (.const nS))] (sQ (Yr [Ya 35 3 7,
 Yk 36 35,Yn 37 36,Yj 38 q0] (.block 0 (.loop (Yr [Yo 39 .lss k38 k37] (sQ (.cond k39 .skip (.exit 0)) (sQ (.block 1 (Yr [oM 40 38,Yi 41 5 36 38,Yl 42 5 41,oO 11 (.alloc [(.bool false),nS,nS,z0,z0]),oM 10 40,
 Ys 5 11 42] (Yr [Yl 43 1 6,Ya 44 3 11,Yk 45 44,Yc 46 22 [k43,k45]] (.cond k46 (Yg [Ya 47 3 8,Yk 48 47,Yl 49 5 11,oO 50 (.bslice [(.bool false),nS,nS,z0,z0] 1 [(0,k49)]),oO 51 (.append [(.bool false),nS,
 nS,z0,z0] 72 k48 k50),oM 52 9,oM 53 10,oO 54 (.bslice [z0] 1 [(0,k53)]),oO 55 (.append [z0] 8 k52 k54),Ya 56 3 8,Ys 1 56 51,oM 9 55]) .skip)))) (Yg [Yo 57 .add k38 q1,oM 38 57]))))))) (sQ (Yr [Ya 58 4 7,
 Yk 59 58,Yn 60 59,Yj 61 q0] (.block 2 (.loop (Yr [Yo 62 .lss k61 k60] (sQ (.cond k62 .skip (.exit 2)) (sQ (.block 3 (Yr [Yi 63 2 59 61,Yl 64 2 63,Yz 13 [nS,nS],Ys 2 13 64] (sQ (.draw [Yd 0 (Yl 65 6 1) 0 0,
 Yd 1 (Yl 66 2 13) 0 0,Yd 2 (Yc 67 23 [k65,k66]) 3 0,Yd 3 (Yl 68 1 6) 0 0,Yd 4 (Yc 69 24 [k67,k68]) 15 1]) (.cond k69 (Yg [Ya 70 4 8,Yk 71 70,Yl 72 2 13,oO 73 (.bslice [nS,nS] 1 [(0,k72)]),oO 74 (.append [nS,
 nS] 48 k71 k73),Ya 75 4 8,Ys 1 75 74]) .skip)))) (Yg [Yo 76 .add k61 q1,oM 61 76]))))))) (Yr [Yl 77 6 8,oM 78 9,Ys 6 2 77,oM 3 78,Yj 4 q0] .ret)))))))))
theorem ok6:Y4 6 79 ir6 [.cell 2 true 6,.tmp 3,.tmp 4]:=Yf Tryz.func6 Tryz.ntmps6
def ok7 := Xm Tryz.func7 Tryz.ntmps7
def ok8 := Xm Tryz.func8 Tryz.ntmps8
def ok9 := Xm Tryz.func9 Tryz.ntmps9
def ir10:X6:=(Yr [Yb 3 0,Yb 4 1,Yb 5 2,Yj 6 kF] (sQ (sQ (.draw [Yd 0 (Ya 9 0 5) 0 0,Yd 1 (Yl 10 32 9) 1 0,Yd 2 (Yl 11 6 3) 0 0,Yd 3 (Yc 12 33 [k11]) 4 0,Yd 4 (oO 13 (.bin .neq (.cells Y3) k10 k12)) 15 1,
 Yd 5 (oM 14 13) 31 1,Yd 6 (oF 14 15 (.load true 35 k5)) 63 1,Yd 7 (oF 14 16 (kC 34 [k15])) 127 1,Yd 8 (oF 14 17 (.bin .neq .num k16 q0)) 255 1,Yd 9 (Yq 18 14 17) 511 1,Yd 10 (oM 19 18) 1023 1,Yd 11 (oF 19 20 (.faddr 32 k5)) 2047 0,
 Yd 12 (oF 19 21 (.load false 1 k20)) 4095 0,Yd 13 (oF 19 22 (.load true 6 k4)) 2047 0,Yd 14 (oF 19 23 (kC 35 [k22])) 10239 0,Yd 15 (oF 19 24 (.bin .neq .bool k21 k23)) 32767 1,Yd 16 (Yq 25 19 24) 65535 1]) (.cond k25 (Yr [Yj 6 kF] .ret) .skip)) (sQ (Yr [Ya 26 32 5,
 Yk 27 26] (.cond k27 (Yr [Ya 28 34 5,Yk 29 28,Yn 30 29,Yo 31 .eql k30 q0,oM 32 31,oT 32 33 (.load true 6 k4),oT 32 34 (.faddr 33 k5),oT 32 35 (.load false 1 k34),oT 32 36 (kC 36 [k33,k35]),Ym 37 32 36,
 oM 6 37] .ret) .skip)) (Yr [Ya 39 34 5,Yk 40 39,Yc 41 37 [k40],oM 38 41,Yx 42 38 0,Yx 43 38 1,oM 7 42,oM 8 43] (Yr [oM 44 8,oM 45 44,oT 45 46 (.faddr 33 k5),oT 45 47 (.load false 1 k46),oT 45 48 (.len k47),
 oT 45 49 (.bin .eql .num k48 q0),Ym 50 45 49,oM 51 50,oT 51 52 (.load true 6 k4),oT 51 53 (.mov k7),oT 51 54 (kC 38 [k52,k53]),Ym 55 51 54,oM 6 55] .ret)))))
theorem ok10:Y4 10 56 ir10 [.tmp 6]:=Yf Tryz.func10 Tryz.ntmps10
def ok11 := Xm Tryz.func11 Tryz.ntmps11
def ir12:X6:=(Yr [Yz 2 [nS]] (Yr [oO 3 (.mov (.const (.int .i64 (-1))))] (sQ (Yr [oM 9 0,Yn 10 9,Yj 11 q0] (.block 0 (.loop (Yr [Yo 12 .lss k11 k10] (sQ (.cond k12 .skip (.exit 0)) (sQ (.block 1 (Yr [Yi 13 1 9 11,
 Yk 14 13,oM 5 14] (Yr [oM 15 5,Yo 16 .leq k15 (kI 4095)] (.cond k16 (Yg [oM 17 3,oM 18 5,oO 19 (.mx k17 k18),oM 3 19]) .skip)))) (Yg [Yo 20 .add k11 q1,oM 11 20]))))))) (sQ (Yr [oM 21 3,Yo 22 .lss k21 q0] (.cond k22 (Yr [oO 23 (.build [nS] []),
 Ys 1 2 23] .ret) .skip)) (Yr [oM 24 3,Yo 25 .quo k24 q64,Yo 26 .add k25 q1,oO 27 (.mslice [Y5] 8 k26 k26),oM 6 27] (sQ (Yr [oM 28 0,Yn 29 28,Yj 30 q0] (.block 2 (.loop (Yr [Yo 31 .lss k30 k29] (sQ (.cond k31 .skip (.exit 2)) (sQ (.block 3 (Yr [Yi 32 1 28 30,
 Yk 33 32,oM 8 33] (Yr [oM 34 8,Yo 35 .geq k34 q0,oM 36 35,oT 36 37 (.mov k8),oT 36 38 (.mov k3),oT 36 39 (.bin .leq .num k37 k38),Ym 40 36 39] (.cond k40 (.draw [Yd 0 (oM 41 6) 0 1,Yd 1 (oM 42 8) 0 1,Yd 2 (Yo 43 .quo k42 q64) 2 1,
 Yd 3 (Yi 44 1 41 43) 7 1,Yd 4 (Yk 45 44) 15 1,Yd 5 (oM 46 8) 0 0,Yd 6 (Yo 47 .rem k46 q64) 32 0,Yd 7 (Yo 48 .shl (kW 1) k47) 96 0,Yd 8 (Yo 49 .or k45 k48) 255 1,Yd 9 (Yi 50 1 41 43) 511 1,Yd 10 (Ys 1 50 49) 1023 1]) .skip)))) (Yg [Yo 51 .add k30 q1,
 oM 30 51]))))))) (Yr [oM 52 6,Yc 53 40 [k52],Ys 1 2 53] .ret)))))))
theorem ok12:Y4 12 54 ir12 [.cell 2 true 1]:=Yf Tryz.func12 Tryz.ntmps12
def ok13 := Xm Tryz.func13 Tryz.ntmps13
def ok14 := Xm Tryz.func14 Tryz.ntmps14
def ir15:X6:=(Yr [Yb 2 0,Yb 3 1,Yj 4 kF] (sQ (.draw [Yd 0 (Ya 5 1 2) 0 1,Yd 1 (Yk 6 5) 1 1,Yd 2 (oO 7 (.bin .neq .ptr k6 (.const nP))) 3 1,Yd 3 (oM 8 7) 7 1,Yd 4 (oT 8 9 (.faddr 5 k2)) 15 0,Yd 5 (oT 8 10 (.load false 1 k9)) 31 0,
 Yd 6 (oT 8 11 (.faddr 1 k2)) 15 0,Yd 7 (oT 8 12 (.load false 1 k11)) 79 0,Yd 8 (oT 8 13 (.load true 1 k3)) 15 0,Yd 9 (oT 8 14 (kC 43 [k12,k13])) 463 0,Yd 10 (oT 8 15 (kC 42 [k10,k14])) 1023 1,Yd 11 (Ym 16 8 15) 2047 1,
 Yd 12 (oM 4 16) 4095 1]) .ret))
theorem ok15:Y4 15 17 ir15 [.tmp 4]:=Yf Tryz.func15 Tryz.ntmps15
def ir16:X6:=(Yr [oO 2 (.alloc [z0,nS,Y5,nS,nS,nS])] (Yr [oM 26 0,oO 27 (.build [nS,z0] [(0,1,k26)]),Yb 28 27,oM 3 28] (Yr [oM 29 3,Yc 30 44 [k29],Yo 31 .rem k30 q4,Yo 32 .add q2 k31,oO 33 (.build [z0,
 nS,Y5,nS,nS,nS] [(0,1,k32)]),oO 4 (.alloc [z0,nS,Y5,nS,nS,nS]),Ys 6 4 33] (Yr [Ya 34 0 4,Yk 35 34,oO 36 (.conv .u64 k35),Yo 37 .shl (kB 2) k36,Yo 38 .sub k37 (kB 2),oM 5 38] (Yr [oM 39 3,Yc 40 44 [k39],
 oM 6 40] (Yr [Yj 7 q0] (sQ (Yr [Yj 8 q1] (.block 0 (.loop (sQ (Yr [oM 41 8,Ya 42 0 4,Yk 43 42,Yo 44 .lss k41 k43] (.cond k44 .skip (.exit 0))) (sQ (.block 1 (Yr [oM 47 8,Yo 48 .add k47 q1,oM 9 48] (.block 2 (.loop (sQ (Yr [oM 49 9,
 Ya 50 0 4,Yk 51 50,Yo 52 .leq k49 k51] (.cond k52 .skip (.exit 2))) (sQ (.block 3 (sQ (Yr [oM 55 6,oM 56 7,Yo 57 .rem k56 q8,oO 58 (.conv .u64 k57),Yo 59 .shr k55 k58,Yo 60 .rem k59 q2,Yo 61 .eql k60 q1,
 oM 62 61,oT 62 63 (.mov k7),oT 62 64 (.bin .rem .num k63 q3),oT 62 65 (.bin .neq .num k64 q2),Ym 66 62 65] (.cond k66 (Yg [Ya 68 1 4,Yk 69 68,oM 70 8,oM 71 9,Yc 72 45 [k69,k70,k71],oM 67 72,Yx 73 67 0,
 Yx 74 67 1,Ya 75 1 4,Ys 1 75 73]) .skip)) (Yg [oM 76 7,Yo 77 .add k76 q1,oM 7 77]))) (Yg [oM 53 9,Yo 54 .add k53 q1,oM 9 54]))))))) (Yg [oM 45 8,Yo 46 .add k45 q1,oM 8 46])))))) (Yr [oM 78 3,Yc 79 44 [k78],
 oO 80 (.conv .u8 k79),oM 81 5,Yo 82 .and k80 k81,oO 83 (.conv .u64 k82),Ya 84 2 4,Ys 1 84 83] (Yr [oM 85 3,Yc 86 44 [k85],Yo 87 .rem k86 q7,oM 10 87] (sQ (Yr [Yj 11 q0] (.block 4 (.loop (sQ (Yr [oM 88 11,
 oM 89 10,Yo 90 .lss k88 k89] (.cond k90 .skip (.exit 4))) (sQ (.block 5 (Yr [oM 93 3,Yc 94 44 [k93],oM 12 94] (Yr [oM 95 3,Yc 96 44 [k95],oM 13 96] (Yr [oM 97 3,Yc 98 44 [k97],oM 14 98] (Yr [oM 99 3,Yc 100 44 [k99],
 oM 15 100] (Yr [oM 101 12,Yo 102 .rem X8p q4,Yo 103 .eql X7m q3,oM 104 13,Ya 105 0 4,Yk 106 105,Yo 107 .rem X6O X79,Yo 108 .add q1 X7I,oM 109 11,oO 110 (.build [(.bool false),Y5,Y5,z0,z0] [(0,1,X7i),
 (3,1,X7G),(4,1,X7n)]),oO 16 (.alloc [(.bool false),Y5,Y5,z0,z0]),Ys 5 16 110] (sQ (Yr [Ya 111 0 16,Yk 112 111,Yh 113 112] (.cond X7D (Yg [oM 114 14,oM 115 15,oM 116 5,Yc 117 46 [X86,X72,X7b],Ya 118 1 16,
 Ys 2 118 117]) .skip)) (Yg [Ya 119 3 4,Yk 120 119,Yl 121 5 16,oO 122 (.bslice [(.bool false),Y5,Y5,z0,z0] 1 [(0,X7M)]),oO 123 (.append [(.bool false),Y5,Y5,z0,z0] 40 X75 X7H),Ya 124 3 4,Ys 1 124 123])))))))) (Yg [oM 91 11,
 Yo 92 .add k91 q1,oM 11 92])))))) (Yr [oM 125 3,Yc 126 44 [X83],Yo 127 .rem X7K q4,oM 17 127] (Yr [oM 128 3,Yc 129 44 [X77],Yo 130 .rem X7v q3,Yo 131 .add q1 X7g,oM 18 131] (sQ (Yr [Yj 19 q0] (.block 6 (.loop (sQ (Yr [oM 132 19,
 oM 133 17,Yo 134 .lss X7N X7x] (.cond X7P .skip (.exit 6))) (sQ (.block 7 (Yr [oM 137 3,Yc 138 44 [X8t],oM 20 138] (Yr [oM 139 3,Yc 140 44 [X7l],oM 21 140] (Yr [oM 141 20,oM 142 19,Ya 143 0 4,Yk 144 143,
 Yo 145 .rem X7Y X7S,oO 146 (.conv .u64 X8v),Yo 147 .shl q2 X8e,Yo 148 .or X7U X8s,oM 149 21,oM 150 5,Yc 151 46 [X8C,X8h,X8I],oO 22 (.alloc [Y5,Y5]),Ys 2 22 151] (sQ (.draw [Yd 0 (Yl 152 2 22) 0 0,
 Yd 1 (Ya 153 1 4) 0 0,Yd 2 (Yk 154 153) 2 0,Yd 3 (Ya 155 2 4) 0 0,Yd 4 (Yk 156 155) 8 0,Yd 5 (Yc 157 48 [X8f,X8U]) 30 0,Yd 6 (Yc 158 47 [X8D,X8b]) 63 1,Yd 7 (Yh 159 158) 127 1]) (.cond X8z (Yg [Ya 160 4 4,
 Yk 161 160,Yl 162 2 22,oO 163 (.bslice [Y5,Y5] 1 [(0,X8g)]),oO 164 (.append [Y5,Y5] 16 X8j X8L),Ya 165 4 4,Ys 1 165 164]) .skip)))))) (Yg [oM 135 19,Yo 136 .add X7O q1,oM 19 136])))))) (sQ (Yr [Yj 23 q0] (.block 8 (.loop (sQ (Yr [oM 166 23,
 oM 167 18,Yo 168 .lss X8H X8x] (.cond X8G .skip (.exit 8))) (sQ (.block 9 (Yr [oM 171 3,Yc 172 44 [X8S],oM 24 172] (Yr [oM 173 3,Yc 174 44 [X8i],oM 25 174] (.draw [Yd 0 (Ya 175 5 4) 0 1,Yd 1 (Yk 176 175) 1 1,
 Yd 2 (oM 177 24) 0 0,Yd 3 (oM 178 25) 0 0,Yd 4 (oM 179 5) 0 0,Yd 5 (Yc 180 46 [X8n,X8K,X8k]) 28 0,Yd 6 (oO 181 (.bslice [Y5,Y5] 1 [(0,X8u)])) 60 0,Yd 7 (oO 182 (.append [Y5,Y5] 16 X8l X8F)) 127 1,
 Yd 8 (Ya 183 5 4) 255 1,Yd 9 (Ys 1 183 182) 511 1])))) (Yg [oM 169 23,Yo 170 .add X8B q1,oM 23 170])))))) (Yr [Yl 184 6 4,Ys 6 2 184] .ret)))))))))))))))
theorem ok16:Y4 16 185 ir16 [.cell 2 true 6]:=Yf Tryz.func16 Tryz.ntmps16
def ir17:X6:=(Yr [Yb 1 0,Yz 2 [z0,nP,nS,nS,nS,nS],Yj 3 kF] (sQ (.draw [Yd 0 (Ya 11 0 1) 0 0,Yd 1 (Yk 12 11) 1 0,Yd 2 (Yc 13 11 []) 0 0,Yd 3 (Ya 14 2 1) 0 0,Yd 4 (Yk 15 14) 8 0,Yd 5 (Yc 16 49 [k15]) 28 0,
 Yd 6 (Ya 17 4 1) 0 0,Yd 7 (Yk 18 17) 64 0,Yd 8 (Yc 19 50 [k18]) 252 0,Yd 9 (Ya 20 5 1) 0 0,Yd 10 (Yk 21 20) 512 0,Yd 11 (Yc 22 50 [k21]) 2044 0,Yd 12 (oO 23 (.build [z0,nP,nS,nS,nS,nS] [(0,1,k12),(1,1,
 k13),(2,1,k16),(4,1,k19),(5,1,k22)])) 4095 1,Yd 13 (Yz 4 [z0,nP,nS,nS,nS,nS]) 0 0,Yd 14 (Ys 6 4 23) 16383 1]) (sQ (Yr [Ya 24 1 1,Yk 25 24,Yn 26 25,Yj 27 q0] (.block 0 (.loop (Yr [Yo 28 .lss k27 k26] (sQ (.cond k28 .skip (.exit 0)) (sQ (.block 1 (Yr [Yi 29 2 25 27,
 Yl 30 2 29,Yz 6 [z0,z0],Ys 2 6 30] (Yr [Ya 32 1 4,Yk 33 32,oO 34 (.iaddrA 2 1 k6 q0),Yk 35 34,oO 36 (.iaddrA 2 1 k6 q1),Yk 37 36,Yc 38 51 [k33,k35,k37],oM 31 38,Yx 39 31 0,Yx 40 31 1,oM 7 39,oM 8 40] (sQ (Yr [oM 41 8,
 Yo 42 .neq k41 q0] (.cond k42 (Yr [oO 43 (.build [z0,nP,nS,nS,nS,nS] []),Ys 6 2 43,Yj 3 kF] .ret) .skip)) (Yg [oM 44 7,Ya 45 1 4,Ys 1 45 44]))))) (Yg [Yo 46 .add k27 q1,oM 27 46]))))))) (sQ (Yr [Ya 47 3 1,
 Yk 48 47,Yn 49 48,Yj 50 q0] (.block 2 (.loop (Yr [Yo 51 .lss k50 k49] (sQ (.cond k51 .skip (.exit 2)) (sQ (.block 3 (Yr [Yi 52 5 48 50,Yl 53 5 52,oO 10 (.alloc [(.bool false),Y5,Y5,z0,z0]),Ys 5 10 53] (.draw [Yd 0 (Ya 54 3 4) 0 0,
 Yd 1 (Yk 55 54) 1 0,Yd 2 (Ya 56 0 10) 0 0,Yd 3 (Yk 57 56) 4 0,Yd 4 (Ya 58 1 10) 0 0,Yd 5 (Yl 59 2 58) 16 0,Yd 6 (Yc 60 52 [k59]) 48 0,Yd 7 (Ya 61 3 10) 0 0,Yd 8 (Yk 62 61) 128 0,Yd 9 (Ya 63 4 10) 0 0,Yd 10 (Yk 64 63) 512 0,
 Yd 11 (oO 65 (.build [(.bool false),nS,nS,z0,z0] [(0,1,k57),(1,2,k60),(3,1,k62),(4,1,k64)])) 2044 0,Yd 12 (oO 66 (.bslice [(.bool false),nS,nS,z0,z0] 1 [(0,k65)])) 4092 0,Yd 13 (oO 67 (.append [(.bool false),
 nS,nS,z0,z0] 72 k55 k66)) 8191 1,Yd 14 (Ya 68 3 4) 16383 1,Yd 15 (Ys 1 68 67) 32767 1]))) (Yg [Yo 69 .add k50 q1,oM 50 69]))))))) (sQ (.draw [Yd 0 (Yl 70 6 4) 0 0,Yd 1 (Ya 71 1 4) 0 0,Yd 2 (Yk 72 71) 2 0,
 Yd 3 (oO 73 (.bin .neq .ptr k72 (.const nP))) 6 0,Yd 4 (Ys 6 2 70) 1 2,Yd 5 (oM 3 73) 31 1]) .ret)))))
theorem ok17:Y4 17 74 ir17 [.cell 2 true 6,.tmp 3]:=Yf Tryz.func17 Tryz.ntmps17
def ok18 := Xm Tryz.func18 Tryz.ntmps18
def ir19:X6:=(Yr [Yb 1 0,Yz 2 [nS]] (Yr [Yz 3 [nS]] (sQ (Yr [Yl 12 6 1,Yc 13 18 [k12],Yo 14 .neq k13 q0] (.cond k14 (Yr [Yl 15 1 3,Ys 1 2 15] .ret) .skip)) (sQ (Yr [Ya 16 5 1,Yk 17 16,Yn 18 17,Yj 19 q0] (.block 0 (.loop (Yr [Yo 20 .lss k19 k18] (sQ (.cond k20 .skip (.exit 0)) (sQ (.block 1 (Yr [Yi 21 2 17 19,
 Yl 22 2 21,Yz 5 [nS,nS],Ys 2 5 22] (.draw [Yd 0 (Yl 23 1 3) 0 0,Yd 1 (Yl 24 6 1) 0 0,Yd 2 (Yl 25 2 5) 0 0,Yd 3 (Yc 26 23 [k24,k25]) 6 0,Yd 4 (Yc 27 59 [k23,k26]) 15 1,Yd 5 (Ys 1 3 27) 31 1]))) (Yg [Yo 28 .add k19 q1,
 oM 19 28]))))))) (.block 2 (.loop (.block 3 (Yr [Yl 29 1 3,Yz 6 [nS],Ys 1 6 29] (sQ (Yr [Ya 30 3 1,Yk 31 30,Yn 32 31,Yj 33 q0] (.block 4 (.loop (Yr [Yo 34 .lss k33 k32] (sQ (.cond k34 .skip (.exit 4)) (sQ (.block 5 (Yr [Yi 35 5 31 33,
 Yl 36 5 35,oO 8 (.alloc [(.bool false),nS,nS,z0,z0]),Ys 5 8 36] (Yr [Ya 37 0 8,Yk 38 37,Yh 39 38,oM 40 39,oT 40 41 (.load true 1 k3),oT 40 42 (.faddr 3 k8),oT 40 43 (.load false 1 k42),oT 40 44 (kC 22 [k41,
 k43]),Ym 45 40 44] (.cond k45 (.draw [Yd 0 (Yl 46 1 3) 0 0,Yd 1 (Yl 47 6 1) 0 0,Yd 2 (Ya 48 1 8) 0 0,Yd 3 (Yl 49 2 48) 4 0,Yd 4 (Yc 50 23 [k47,k49]) 14 0,Yd 5 (Yc 51 59 [k46,k50]) 31 1,Yd 6 (Ys 1 3 51) 63 1]) .skip)))) (Yg [Yo 52 .add k33 q1,
 oM 33 52]))))))) (sQ (Yr [Ya 53 4 1,Yk 54 53,Yn 55 54,Yj 56 q0] (.block 6 (.loop (Yr [Yo 57 .lss k56 k55] (sQ (.cond k57 .skip (.exit 6)) (sQ (.block 7 (Yr [Yi 58 2 54 56,Yl 59 2 58,Yz 10 [nS,nS],Ys 2 10 59] (Yr [Yl 60 6 1,
 Yl 61 2 10,Yc 62 23 [k60,k61],Yz 11 [nS],Ys 1 11 62] (Yr [Yl 63 1 11,Yl 64 1 3,Yc 65 24 [k63,k64]] (.cond k65 (Yg [Yl 66 1 3,Yl 67 1 11,Yc 68 59 [k66,k67],Ys 1 3 68]) .skip))))) (Yg [Yo 69 .add k56 q1,
 oM 56 69]))))))) (Yr [Yl 70 1 3,Yl 71 1 6,Yc 72 60 [k70,k71]] (.cond k72 (Yr [Yl 73 1 3,Ys 1 2 73] .ret) .skip))))))))))))
theorem ok19:Y4 19 74 ir19 [.cell 2 true 1]:=Yf Tryz.func19 Tryz.ntmps19
def ir20:X6:=(Yr [Yb 1 0,Yz 2 [z0,nP,nS,nS,nS,nS]] (sQ (.draw [Yd 0 (Ya 3 3 1) 0 0,Yd 1 (Yk 4 3) 1 0,Yd 2 (Yc 5 61 [k4]) 3 0,Yd 3 (Ya 6 4 1) 0 0,Yd 4 (Yk 7 6) 8 0,Yd 5 (Yc 8 62 [k7]) 31 0,Yd 6 (Ya 9 5 1) 0 0,
 Yd 7 (Yk 10 9) 64 0,Yd 8 (Yc 11 62 [k10]) 255 1,Yd 9 (Ya 12 3 1) 223 1,Yd 10 (Ys 1 12 5) 1023 1,Yd 11 (Ya 13 4 1) 2047 1,Yd 12 (Ys 1 13 8) 4095 1,Yd 13 (Ya 14 5 1) 8191 1,Yd 14 (Ys 1 14 11) 16383 1]) (Yr [Yl 15 6 1,
 Ys 6 2 15] .ret)))
theorem ok20:Y4 20 16 ir20 [.cell 2 true 6]:=Yf Tryz.func20 Tryz.ntmps20
def ir21:X6:=(Yr [Yb 2 0,Yb 3 1,Yz 4 [nS]] (Yr [Ya 7 0 2,Yk 8 7,Yn 9 8,Ya 10 0 3,Yk 11 10,Yn 12 11,oO 13 (.mn k9 k12),oO 14 (.mslice [Y5] 8 k13 k13),oM 5 14] (sQ (Yr [oM 15 5,Yn 16 15,Yj 17 q0] (.block 0 (.loop (Yr [Yo 18 .lss k17 k16] (sQ (.cond k18 .skip (.exit 0)) (sQ (.block 1 (Yr [oM 19 17,
 oM 6 19] (.draw [Yd 0 (oM 20 5) 0 0,Yd 1 (oM 21 6) 0 0,Yd 2 (Ya 22 0 2) 0 0,Yd 3 (Yk 23 22) 4 0,Yd 4 (oM 24 6) 0 0,Yd 5 (Yi 25 1 23 24) 28 0,Yd 6 (Yk 26 25) 60 0,Yd 7 (Ya 27 0 3) 0 0,Yd 8 (Yk 28 27) 128 0,
 Yd 9 (oM 29 6) 0 0,Yd 10 (Yi 30 1 28 29) 896 0,Yd 11 (Yk 31 30) 1920 0,Yd 12 (Yo 32 .and k26 k31) 4092 1,Yd 13 (Yi 33 1 20 21) 8191 1,Yd 14 (Ys 1 33 32) 16383 1]))) (Yg [Yo 34 .add k17 q1,oM 17 34]))))))) (Yr [oM 35 5,
 Yc 36 40 [k35],Ys 1 4 36] .ret))))
theorem ok21:Y4 21 37 ir21 [.cell 4 true 1]:=Yf Tryz.func21 Tryz.ntmps21
def ok22 := Xm Tryz.func22 Tryz.ntmps22
def ir23:X6:=(Yr [Yb 2 0,Yb 3 1,Yz 4 [nS]] (Yr [Yz 5 [nS]] (sQ (Yr [Ya 7 0 3,Yl 8 1 7,Ya 9 1 3,Yl 10 1 9,Yc 11 59 [k8,k10],Yc 12 64 [k11]] (.block 0 (.range k12 [13] [(6,k13)] (.block 1 (.draw [Yd 0 (Yl 14 1 5) 0 0,
 Yd 1 (Ya 15 1 2) 0 0,Yd 2 (Yk 16 15) 2 0,Yd 3 (oM 17 6) 0 0,Yd 4 (Yc 18 65 [k16,k17]) 14 0,Yd 5 (Yc 19 59 [k14,k18]) 31 1,Yd 6 (Ys 1 5 19) 63 1]))))) (Yr [Yl 20 1 5,Ys 1 4 20] .ret))))
theorem ok23:Y4 23 21 ir23 [.cell 4 true 1]:=Yf Tryz.func23 Tryz.ntmps23
def ir24:X6:=(Yr [Yb 2 0,Yb 3 1,Yj 4 kF] (sQ (Yr [Ya 6 0 2,Yk 7 6,Yn 8 7,Ya 9 0 3,Yk 10 9,Yn 11 10,oO 12 (.mn k8 k11),Yj 13 q0] (.block 0 (.loop (Yr [Yo 14 .lss k13 k12] (sQ (.cond k14 .skip (.exit 0)) (sQ (.block 1 (Yr [oM 15 13,
 oM 5 15] (sQ (.draw [Yd 0 (Ya 16 0 2) 0 0,Yd 1 (Yk 17 16) 1 0,Yd 2 (oM 18 5) 0 0,Yd 3 (Yi 19 1 17 18) 7 0,Yd 4 (Yk 20 19) 15 0,Yd 5 (Ya 21 0 3) 0 0,Yd 6 (Yk 22 21) 32 0,Yd 7 (oM 23 5) 0 0,Yd 8 (Yi 24 1 22 23) 224 0,
 Yd 9 (Yk 25 24) 480 0,Yd 10 (Yo 26 .and k20 k25) 1023 1,Yd 11 (Yo 27 .neq k26 (kW 0)) 2047 1]) (.cond k27 (Yr [Yj 4 kT] .ret) .skip)))) (Yg [Yo 28 .add k13 q1,oM 13 28]))))))) (Yr [Yj 4 kF] .ret)))
theorem ok24:Y4 24 29 ir24 [.tmp 4]:=Yf Tryz.func24 Tryz.ntmps24
def ir25:X6:=(Yr [Yb 2 0,Yz 4 [z0,nP,nS,nS,nS,nS,z0,nP,nS,nS,nS,nS,nS,nS],Yj 5 q0] (sQ (Yr [oM 10 1,Yo 11 .lss k10 q1] (.cond k11 (Yr [oO 12 (.build [z0,nP,nS,nS,nS,nS,z0,nP,nS,nS,nS,nS,nS,nS] []),Ys 14 4 12,
 Yj 5 q1] .ret) .skip)) (sQ (Yr [Yl 13 6 2,Yc 14 18 [k13],oM 6 14] (Yr [oM 15 6,Yo 16 .neq k15 q0] (.cond k16 (Yr [oO 17 (.build [z0,nP,nS,nS,nS,nS,z0,nP,nS,nS,nS,nS,nS,nS] []),oM 18 6,Ys 14 4 17,oM 5 18] .ret) .skip))) (Yr [Yl 20 6 2,
 Yc 21 6 [k20],oM 19 21,Yx 22 19 0,Yx 23 19 1,Yx 24 19 2,Yz 7 [z0,nP,nS,nS,nS,nS],Ys 6 7 22,oM 8 23,oM 9 24] (sQ (.draw [Yd 0 (Yl 25 6 2) 0 0,Yd 1 (Yl 26 6 7) 0 0,Yd 2 (oM 27 8) 0 0,Yd 3 (Yl 28 6 2) 0 0,
 Yd 4 (Yc 29 19 [k28]) 8 0,Yd 5 (oO 30 (.build [z0,nP,nS,nS,nS,nS,z0,nP,nS,nS,nS,nS,nS,nS] [(0,6,k25),(6,6,k26),(12,1,k27),(13,1,k29)])) 31 1,Yd 6 (oM 31 9) 0 0,Yd 7 (Ys 14 4 30) 63 1,Yd 8 (oM 5 31) 255 1]) .ret)))))
theorem ok25:Y4 25 32 ir25 [.cell 4 true 14,.tmp 5]:=Yf Tryz.func25 Tryz.ntmps25
def ir26:X6:=(Yr [Yb 3 0,Yz 6 Y2,Yj 7 q0] (Yr [oO 8 (.mov (.const nS))] (Yr [oO 9 (.mov (.const nS))] (Yr [Yj 10 kF] (Yr [Yj 11 q0] (sQ (Yr [oM 17 1] (.block 0 (Yr [Yo 27 .eql k17 (kB 1),oM 26 27] (.cond k26 (Yg [Ya 29 6 3,
 Yl 30 6 29,Yc 31 66 [k30],oM 28 31,Yx 32 28 0,Yx 33 28 1,Yx 34 28 2,Yx 35 28 3,oM 8 32,oM 9 33,oM 10 34,oM 11 35]) (Yr [Yo 37 .eql k17 (kB 2),oM 36 37] (.cond k36 (Yg [Ya 39 6 3,Yl 40 6 39,oM 41 2,Yc 42 67 [k40,
 k41],oM 38 42,Yx 43 38 0,Yx 44 38 1,Yx 45 38 2,Yx 46 38 3,oM 8 43,oM 9 44,oM 10 45,oM 11 46]) (Yg [Yl 19 14 3,oM 20 2,Yc 21 68 [k19,k20],oM 18 21,Yx 22 18 0,Yx 23 18 1,Yx 24 18 2,Yx 25 18 3,oM 8 22,oM 9 23,
 oM 10 24,oM 11 25]))))))) (sQ (Yr [oM 47 11,Yo 48 .neq k47 q0] (.cond k48 (Yr [oO 49 (.build Y2 []),oM 50 11,Ys 35 6 49,oM 7 50] .ret) .skip)) (sQ (Yr [oM 51 10] (.cond k51 (Yr [oM 53 8,Ya 54 12 3,Yk 55 54,
 Yc 56 69 [k53,k55],oM 52 56,Yx 57 52 0,Yx 58 52 1,oM 12 57,oM 13 58] (sQ (Yr [oM 59 13,Yo 60 .neq k59 q0] (.cond k60 (Yr [oO 61 (.build Y2 []),oM 62 13,Ys 35 6 61,oM 7 62] .ret) .skip)) (Yr [Ya 63 0 3,
 Yl 64 6 63,oM 65 12,Yc 66 70 [k64,k65],Ys 35 6 66,Yj 7 q0] .ret))) .skip)) (Yr [oO 14 (.mov (.const nS))] (sQ (Yr [oM 67 9,Yn 68 67,Yj 69 q0] (.block 1 (.loop (Yr [Yo 70 .lss k69 k68] (sQ (.cond k70 .skip (.exit 1)) (sQ (.block 2 (Yr [Yi 71 2 67 69,
 Yl 72 2 71,Yz 16 [nS,nS],Ys 2 16 72] (.draw [Yd 0 (oM 73 14) 0 0,Yd 1 (Ya 74 0 16) 0 0,Yd 2 (Yl 75 1 74) 2 0,Yd 3 (Ya 76 13 3) 0 0,Yd 4 (Yl 77 1 76) 8 0,Yd 5 (Yc 78 21 [k75,k77]) 30 0,Yd 6 (Ya 79 1 16) 0 0,
 Yd 7 (Yl 80 1 79) 64 0,Yd 8 (Ya 81 13 3) 0 0,Yd 9 (Yl 82 1 81) 256 0,Yd 10 (Yc 83 21 [k80,k82]) 1022 1,Yd 11 (oO 84 (.build [nS,nS] [(0,1,k78),(1,1,k83)])) 2046 1,Yd 12 (oO 85 (.bslice [nS,nS] 1 [(0,k84)])) 4094 1,
 Yd 13 (oO 86 (.append [nS,nS] 48 k73 k85)) 8191 1,Yd 14 (oM 14 86) 16383 1]))) (Yg [Yo 87 .add k69 q1,oM 69 87]))))))) (Yr [Ya 88 0 3,Yl 89 6 88,oM 90 14,Yc 91 71 [k89,k90],Ys 35 6 91,Yj 7 q0] .ret)))))))))))
theorem ok26:Y4 26 92 ir26 [.cell 6 true 35,.tmp 7]:=Yf Tryz.func26 Tryz.ntmps26
def ok27 := Xm Tryz.func27 Tryz.ntmps27
def ok28 := Xm Tryz.func28 Tryz.ntmps28
def ok29 := Xm Tryz.func29 Tryz.ntmps29
def ir30:X6:=(Yr [Yj 4 kF] (sQ (Yr [oM 6 0,Yn 7 6,oM 8 1,Yn 9 8,Yo 10 .neq k7 k9] (.cond k10 (Yr [Yj 4 kF] .ret) .skip)) (sQ (Yr [oM 11 0,Yn 12 11,Yj 13 q0] (.block 0 (.loop (Yr [Yo 14 .lss k13 k12] (sQ (.cond k14 .skip (.exit 0)) (sQ (.block 1 (Yr [oM 15 13,
 oM 5 15] (sQ (.draw [Yd 0 (oM 16 0) 0 0,Yd 1 (oM 17 5) 0 0,Yd 2 (Yi 18 1 16 17) 3 0,Yd 3 (Yk 19 18) 7 0,Yd 4 (oM 20 1) 0 0,Yd 5 (oM 21 5) 0 0,Yd 6 (Yi 22 1 20 21) 48 0,Yd 7 (Yk 23 22) 112 0,Yd 8 (Yo 24 .neq k19 k23) 255 1]) (.cond k24 (Yr [Yj 4 kF] .ret) .skip)))) (Yg [Yo 25 .add k13 q1,
 oM 13 25]))))))) (Yr [Yj 4 kT] .ret))))
theorem ok30:Y4 30 26 ir30 [.tmp 4]:=Yf Tryz.func30 Tryz.ntmps30
def ok31 := Xm Tryz.func31 Tryz.ntmps31
def ok32 := Xm Tryz.func32 Tryz.ntmps32
def ir33:X6:=(Yr [Yb 1 0,Yz 2 Y1] (sQ (Yr [Yl 6 6 1,Yc 7 18 [k6],Yo 8 .neq k7 q0] (.cond k8 (Yr [oO 9 (.build Y1 []),Ys 32 2 9] .ret) .skip)) (Yr [Yc 10 73 [],oM 3 10] (Yr [oM 11 3,Ya 12 0 1,Yk 13 12,
 oO 14 (.conv .u64 k13),Yc 15 74 [k11,k14]] (Yr [oM 16 3,Ya 17 1 1,Yk 18 17,Yc 19 76 [k18],Yc 20 75 [k16,k19]] (Yr [oM 21 3,Ya 22 2 1,Yl 23 1 22,Yc 24 77 [k21,k23]] (Yr [oM 25 3,Ya 26 3 1,Yk 27 26,Yn 28 27,
 oO 29 (.conv .u64 k28),Yc 30 74 [k25,k29]] (sQ (Yr [Ya 31 3 1,Yk 32 31,Yn 33 32,Yj 34 q0] (.block 0 (.loop (Yr [Yo 35 .lss k34 k33] (sQ (.cond k35 .skip (.exit 0)) (sQ (.block 1 (Yr [Yi 36 5 32 34,Yl 37 5 36,
 oO 5 (.alloc [(.bool false),nS,nS,z0,z0]),Ys 5 5 37] (Yr [oM 38 3,Ya 39 0 5,Yk 40 39,Yc 41 78 [k38,k40]] (Yr [oM 42 3,Ya 43 1 5,Yl 44 2 43,Yc 45 79 [k42,k44]] (Yg [oM 46 3,Ya 47 3 5,Yk 48 47,oO 49 (.conv .u64 k48),
 Yc 50 74 [k46,k49]]))))) (Yg [Yo 51 .add k34 q1,oM 34 51]))))))) (Yr [oM 52 3,Ya 53 4 1,Yk 54 53,Yc 55 80 [k52,k54]] (Yr [oM 56 3,Ya 57 5 1,Yk 58 57,Yc 59 80 [k56,k58]] (Yr [oM 60 3,Yc 61 82 [k60],oO 62 (.bslice [nS] 1 [(0,
 k61)]),⟨(some 63),kC 81 [(.const (.string ⟨#[112,114,111,98,108,101,109]⟩)),k62],none⟩,Ys 32 2 63] .ret)))))))))))
theorem ok33:Y4 33 64 ir33 [.cell 2 true 32]:=Yf Tryz.func33 Tryz.ntmps33
def ir34:X6:=(Yr [Yb 1 0,Yj 2 q0] (sQ (.block 0 (Yr [Ya 7 33 1,Yk 8 7,Yn 9 8,Yo 10 .gtr k9 (kI 10000),oM 11 10,oF 11 12 (.faddr 34 k1),oF 11 13 (.load false 1 k12),oF 11 14 (.len k13),oF 11 15 (.bin .gtr .num k14 (kI 2000)),
 Yq 16 11 15,oM 6 16] (.cond k6 (Yr [Yj 2 q3] .ret) (Yr [Ya 18 32 1,Yk 19 18,oM 20 19,oT 20 21 (.faddr 34 k1),oT 20 22 (.load false 1 k21),oT 20 23 (.len k22),oT 20 24 (.bin .gtr .num k23 q0),Ym 25 20 24,
 oM 26 25,oF 26 27 (.faddr 32 k1),oF 26 28 (.load false 1 k27),oF 26 29 (.una .not k28),oF 26 30 (.mov k29),oT 30 31 (.faddr 33 k1),oT 30 32 (.load false 1 k31),oT 30 33 (.len k32),oT 30 34 (.bin .gtr .num k33 q0),
 oF 26 35 (.pick k30 k34 kF),Yq 36 26 35,oM 17 36] (.cond k17 (Yr [Yj 2 q6] .ret) (Yr [Ya 38 33 1,Yk 39 38,Yc 40 83 [k39,(.func 84)],oM 37 40] (.cond k37 (Yr [Yj 2 q2] .ret) .skip))))))) (Yr [Yc 41 85 [q64],
 Yc 42 86 [k41,q0],Yz 3 [nS],Ys 1 3 42] (sQ (Yr [Ya 43 34 1,Yk 44 43,Yn 45 44,Yj 46 q0] (.block 1 (.loop (Yr [Yo 47 .lss k46 k45] (sQ (.cond k47 .skip (.exit 1)) (sQ (.block 2 (Yr [Yi 48 2 44 46,Yl 49 2 48,
 Yz 5 [nS,nS],Ys 2 5 49] (sQ (sQ (.draw [Yd 0 (Ya 50 0 5) 0 0,Yd 1 (Yl 51 1 50) 1 0,Yd 2 (Ya 52 1 5) 0 0,Yd 3 (Yl 53 1 52) 4 0,Yd 4 (Yc 54 59 [k51,k53]) 15 0,Yd 5 (Yl 55 1 3) 0 0,Yd 6 (Yc 56 87 [k54,k55]) 63 1,
 Yd 7 (Yh 57 56) 127 1]) (.cond k57 (Yr [Yj 2 q2] .ret) .skip)) (Yr [Yl 58 2 5,Yc 59 56 [k58]] (.cond k59 (Yr [Yj 2 q6] .ret) .skip))))) (Yg [Yo 60 .add k46 q1,oM 46 60]))))))) (Yr [Yj 2 q0] .ret)))))
theorem ok34:Y4 34 61 ir34 [.tmp 2]:=Yf Tryz.func34 Tryz.ntmps34
def ok35 := Xm Tryz.func35 Tryz.ntmps35
def ok36 := Xm Tryz.func36 Tryz.ntmps36
def ok37 := Xm Tryz.func37 Tryz.ntmps37
def ok38 := Xm Tryz.func38 Tryz.ntmps38
def ok39 := Xm Tryz.func39 Tryz.ntmps39
def ok40 := Xm Tryz.func40 Tryz.ntmps40
def ir41:X6:=(Yr [Yb 3 0,Yb 4 1,Yz 6 [nS],Yj 7 kF] (sQ (Yr [Ya 10 1 3,Yk 11 10,oO 12 (.bin .eql .ptr k11 (.const nP)),oM 13 12,oF 13 14 (.mov k2),oF 13 15 (.bin .lss .num k14 q0),Yq 16 13 15,oM 17 16,
 oF 17 18 (.mov k2),oF 17 19 (.faddr 3 k3),oF 17 20 (.load false 1 k19),oF 17 21 (.len k20),oF 17 22 (.bin .geq .num k18 k21),Yq 23 17 22] (.cond k23 (Yr [oO 24 (.build [nS] []),Ys 1 6 24,Yj 7 kF] .ret) .skip)) (Yr [Ya 25 3 3,
 Yk 26 25,oM 27 2,Yi 28 5 26 27,Yl 29 5 28,oO 8 (.alloc [(.bool false),nS,nS,z0,z0]),Ys 5 8 29] (Yr [Yl 30 1 4,Ya 31 3 8,Yk 32 31,Yc 33 101 [k30,k32],Yz 9 [nS],Ys 1 9 33] (sQ (Yr [Ya 34 0 8,Yk 35 34] (.cond k35 (Yg [Yl 36 1 4,
 Ya 37 3 8,Yk 38 37,Yc 39 86 [k36,k38],Ys 1 9 39]) .skip)) (sQ (sQ (.draw [Yd 0 (Yl 40 1 4) 0 0,Yd 1 (Ya 41 3 8) 0 0,Yd 2 (Yk 42 41) 2 0,Yd 3 (Yc 43 22 [k40,k42]) 7 0,Yd 4 (Ya 44 0 8) 0 0,Yd 5 (Yk 45 44) 16 0,
 Yd 6 (oO 46 (.bin .neq .bool k43 k45)) 63 1,Yd 7 (oM 47 46) 127 1,Yd 8 (oF 47 48 (.faddr 0 k8)) 255 1,Yd 9 (oF 47 49 (.load false 1 k48)) 511 1,Yd 10 (oF 47 50 (.una .not k49)) 1023 1,Yd 11 (oF 47 51 (.mov k50)) 2047 1,
 Yd 12 (oT 51 52 (.faddr 1 k8)) 4095 0,Yd 13 (oT 51 53 (.load true 2 k52)) 8191 0,Yd 14 (oT 51 54 (.faddr 1 k3)) 4095 0,Yd 15 (oT 51 55 (.load false 1 k54)) 20479 0,Yd 16 (oT 51 56 (.load true 1 k4)) 4095 0,
 Yd 17 (oT 51 57 (kC 43 [k55,k56])) 118783 0,Yd 18 (oT 51 58 (kC 102 [k53,k57])) 262143 1,Yd 19 (oT 51 59 (.una .not k58)) 524287 1,Yd 20 (oF 47 60 (.pick k51 k59 kF)) 1048575 1,Yd 21 (Yq 61 47 60) 2097151 1,
 Yd 22 (oM 62 61) 4194303 1,Yd 23 (oF 62 63 (.load true 6 k3)) 8388607 0,Yd 24 (oF 62 64 (.load true 1 k9)) 8388607 0,Yd 25 (oF 62 65 (kC 58 [k63,k64])) 33554431 1,Yd 26 (oF 62 66 (.una .not k65)) 67108863 1,
 Yd 27 (Yq 67 62 66) 134217727 1]) (.cond k67 (Yr [oO 68 (.build [nS] []),Ys 1 6 68,Yj 7 kF] .ret) .skip)) (Yr [Yl 69 1 9,Ys 1 6 69,Yj 7 kT] .ret)))))))
theorem ok41:Y4 41 70 ir41 [.cell 6 true 1,.tmp 7]:=Yf Tryz.func41 Tryz.ntmps41
def ok42 := Xm Tryz.func42 Tryz.ntmps42
def ir43:X6:=(Yr [Yb 2 0,Yb 3 1,Yz 4 [nS]] (Yr [Yz 5 [nS]] (sQ (Yr [Yl 7 1 3,Yc 8 64 [k7]] (.block 0 (.range k8 [9] [(6,k9)] (.block 1 (.draw [Yd 0 (Yl 10 1 5) 0 0,Yd 1 (Yk 11 2) 0 0,Yd 2 (oM 12 6) 0 0,
 Yd 3 (Yc 13 104 [k11,k12]) 6 0,Yd 4 (Yc 14 59 [k10,k13]) 15 1,Yd 5 (Ys 1 5 14) 31 1]))))) (Yr [Yl 15 1 5,Ys 1 4 15] .ret))))
theorem ok43:Y4 43 16 ir43 [.cell 4 true 1]:=Yf Tryz.func43 Tryz.ntmps43
def ir44:X6:=(Yr [Yj 2 q0] (Yr [oM 3 0,oO 4 (.nilck k3),Ya 5 1 4,Yk 6 5,Yo 7 .add k6 q1,oO 8 (.nilck k3),Ya 9 1 8,Ys 1 9 7] (sQ (sQ (.draw [Yd 0 (oM 10 0) 0 0,Yd 1 (oO 11 (.nilck k10)) 1 0,Yd 2 (Ya 12 1 11) 3 0,
 Yd 3 (Yk 13 12) 7 0,Yd 4 (oM 14 0) 0 0,Yd 5 (oO 15 (.nilck k14)) 16 0,Yd 6 (Ya 16 0 15) 48 0,Yd 7 (Yk 17 16) 112 0,Yd 8 (Yn 18 17) 240 0,Yd 9 (Yo 19 .gtr k13 k18) 511 1]) (.cond k19 (Yr [Yj 2 q0] .ret) .skip)) (sQ (.draw [Yd 0 (oM 20 0) 0 0,
 Yd 1 (oO 21 (.nilck k20)) 1 0,Yd 2 (Ya 22 0 21) 3 0,Yd 3 (Yk 23 22) 7 0,Yd 4 (oM 24 0) 0 0,Yd 5 (oO 25 (.nilck k24)) 16 0,Yd 6 (Ya 26 1 25) 48 0,Yd 7 (Yk 27 26) 112 0,Yd 8 (Yo 28 .sub k27 q1) 240 0,Yd 9 (Yi 29 1 23 28) 511 1,
 Yd 10 (Yk 30 29) 1023 1,Yd 11 (oO 31 (.conv .i64 k30)) 2047 1,Yd 12 (oM 2 31) 4095 1]) .ret))))
theorem ok44:Y4 44 32 ir44 [.tmp 2]:=Yf Tryz.func44 Tryz.ntmps44
def ir45:X6:=(Yr [oO 6 (.mov (.const nS)),Yj 7 q0] (sQ (Yr [oM 9 1,Yc 10 105 [k9],Yh 11 10,oM 12 11,oF 12 13 (.mov k2),oF 12 14 (kC 105 [k13]),oF 12 15 (.una .not k14),Yq 16 12 15,oM 17 16,oF 17 18 (.mov k1),
 oF 17 19 (.mov k2),oF 17 20 (.bin .eql .num k18 k19),Yq 21 17 20] (.cond k21 (Yr [oM 22 0,oM 6 22,Yj 7 q1] .ret) .skip)) (sQ (Yr [oM 23 0,oM 24 1,oM 25 2,Yc 26 106 [k23,k24,k25]] (.cond k26 (Yr [oM 27 0,
 oM 6 27,Yj 7 q5] .ret) .skip)) (sQ (Yr [oM 28 0,oM 29 2,oM 30 1,Yc 31 107 [k28,k29,k30]] (.cond k31 (Yr [oM 32 0,oM 6 32,Yj 7 q16] .ret) .skip)) (Yr [Yj 8 q0] (sQ (.block 0 (.loop (sQ (Yr [oM 33 8,oM 34 0,
 Yn 35 34,Yo 36 .lss k33 k35,oM 37 36,oT 37 38 (.mov k0),oT 37 39 (.mov k8),oT 37 40 (.iaddr 2 k38 k39),oT 37 41 (.iaddrA 2 1 k40 q0),oT 37 42 (.load false 1 k41),oT 37 43 (.mov k1),oT 37 44 (.bin .lss .num k42 k43),
 oT 37 45 (.mov k44),oF 45 46 (.mov k0),oF 45 47 (.mov k8),oF 45 48 (.iaddr 2 k46 k47),oF 45 49 (.iaddrA 2 1 k48 q0),oF 45 50 (.load false 1 k49),oF 45 51 (.mov k1),oF 45 52 (.bin .eql .num k50 k51),oF 45 53 (.mov k52),
 oT 53 54 (.mov k0),oT 53 55 (.mov k8),oT 53 56 (.iaddr 2 k54 k55),oT 53 57 (.iaddrA 2 1 k56 q1),oT 53 58 (.load false 1 k57),oT 53 59 (.mov k2),oT 53 60 (.bin .lss .num k58 k59),oF 45 61 (.pick k53 k60 kF),
 oT 37 62 (.pick k45 kT k61),Ym 63 37 62] (.cond k63 .skip (.exit 0))) (.block 1 (Yg [oM 64 8,Yo 65 .add k64 q1,oM 8 65]))))) (sQ (.draw [Yd 0 (oO 66 (.bslice [z0,z0] 0 [])) 0 0,Yd 1 (oM 67 0) 0 0,Yd 2 (oM 68 8) 0 0,
 Yd 3 (oO 69 (.slc 2 k67 none (some k68) none)) 6 0,Yd 4 (oO 70 (.append [z0,z0] 16 k66 k69)) 15 30,Yd 5 (oM 71 1) 0 0,Yd 6 (oM 72 2) 0 0,Yd 7 (oO 73 (.build [z0,z0] [(0,1,k71),(1,1,k72)])) 96 0,Yd 8 (oO 74 (.bslice [z0,
 z0] 1 [(0,k73)])) 224 0,Yd 9 (oO 75 (.append [z0,z0] 16 k70 k74)) 511 1022,Yd 10 (oM 76 0) 0 0,Yd 11 (oM 77 8) 0 0,Yd 12 (oO 78 (.slc 2 k76 (some k77) none none)) 3072 0,Yd 13 (oO 79 (.append [z0,z0] 16 k75 k78)) 8191 1,
 Yd 14 (oM 6 79) 16383 1,Yd 15 (Yj 7 q0) 32767 1]) .ret)))))))
theorem ok45:Y4 45 80 ir45 [.tmp 6,.tmp 7]:=Yf Tryz.func45 Tryz.ntmps45
def ok46 := Xm Tryz.func46 Tryz.ntmps46
def ok47 := Xm Tryz.func47 Tryz.ntmps47
def ok48 := Xm Tryz.func48 Tryz.ntmps48
def ok49 := Xm Tryz.func49 Tryz.ntmps49
def ok50 := Xm Tryz.func50 Tryz.ntmps50
def ok51 := Xm Tryz.func51 Tryz.ntmps51
def ir52:X6:=(Yr [Yb 1 0,Yz 2 [nS,nS]] (sQ (.draw [Yd 0 (Ya 3 0 1) 0 0,Yd 1 (Yk 4 3) 1 0,Yd 2 (Yc 5 49 [k4]) 3 0,Yd 3 (Ya 6 1 1) 0 0,Yd 4 (Yk 7 6) 8 0,Yd 5 (Yc 8 49 [k7]) 31 1,Yd 6 (oO 9 (.build [nS,
 nS] [(0,1,k5),(1,1,k8)])) 63 1,Yd 7 (Ys 2 2 9) 127 1]) .ret))
theorem ok52:Y4 52 10 ir52 [.cell 2 true 2]:=Yf Tryz.func52 Tryz.ntmps52
def ok53 := Xm Tryz.func53 Tryz.ntmps53
def ok54 := Xm Tryz.func54 Tryz.ntmps54
def ir55:X6:=(Yr [Yb 1 0,oO 2 (.mov (.const nS))] (Yr [oO 3 (.mov (.const nS))] (sQ (Yr [Ya 6 3 1,Yk 7 6,Yn 8 7,Yj 9 q0] (.block 0 (.loop (Yr [Yo 10 .lss k9 k8] (sQ (.cond k10 .skip (.exit 0)) (sQ (.block 1 (Yr [Yi 11 5 7 9,
 Yl 12 5 11,oO 5 (.alloc [(.bool false),nS,nS,z0,z0]),Ys 5 5 12] (Yg [oM 13 3,Ya 14 1 5,Yl 15 2 14,oO 16 (.bslice [nS,nS] 1 [(0,k15)]),oO 17 (.append [nS,nS] 48 k13 k16),oM 3 17]))) (Yg [Yo 18 .add k9 q1,
 oM 9 18]))))))) (sQ (.draw [Yd 0 (oM 19 3) 0 0,Yd 1 (Ya 20 4 1) 0 0,Yd 2 (Yk 21 20) 2 0,Yd 3 (oO 22 (.append [nS,nS] 48 k19 k21)) 7 14,Yd 4 (Ya 23 5 1) 0 0,Yd 5 (Yk 24 23) 16 0,Yd 6 (oO 25 (.append [nS,
 nS] 48 k22 k24)) 63 1,Yd 7 (oM 2 25) 127 1]) .ret))))
theorem ok55:Y4 55 26 ir55 [.tmp 2]:=Yf Tryz.func55 Tryz.ntmps55
def ok56 := Xm Tryz.func56 Tryz.ntmps56
def ok57 := Xm Tryz.func57 Tryz.ntmps57
def ir58:X6:=(Yr [Yb 2 0,Yb 3 1,Yj 4 kF] (sQ (.draw [Yd 0 (Ya 5 1 2) 0 1,Yd 1 (Yk 6 5) 1 1,Yd 2 (oO 7 (.bin .neq .ptr k6 (.const nP))) 3 1,Yd 3 (oM 8 7) 7 1,Yd 4 (oT 8 9 (.faddr 4 k2)) 15 0,Yd 5 (oT 8 10 (.load false 1 k9)) 31 0,
 Yd 6 (oT 8 11 (.faddr 1 k2)) 15 0,Yd 7 (oT 8 12 (.load false 1 k11)) 79 0,Yd 8 (oT 8 13 (.load true 1 k3)) 15 0,Yd 9 (oT 8 14 (kC 43 [k12,k13])) 463 0,Yd 10 (oT 8 15 (kC 42 [k10,k14])) 1023 1,Yd 11 (oT 8 16 (.una .not k15)) 2047 1,
 Yd 12 (Ym 17 8 16) 4095 1,Yd 13 (oM 4 17) 8191 1]) .ret))
theorem ok58:Y4 58 18 ir58 [.tmp 4]:=Yf Tryz.func58 Tryz.ntmps58
def ir59:X6:=(Yr [Yb 2 0,Yb 3 1,Yz 4 [nS]] (Yr [Ya 7 0 2,Yk 8 7,Yn 9 8,Ya 10 0 3,Yk 11 10,Yn 12 11,oO 13 (.mx k9 k12),oO 14 (.mslice [Y5] 8 k13 k13),oM 5 14] (sQ (Yr [oM 15 5,Yn 16 15,Yj 17 q0] (.block 0 (.loop (Yr [Yo 18 .lss k17 k16] (sQ (.cond k18 .skip (.exit 0)) (sQ (.block 1 (Yr [oM 19 17,
 oM 6 19] (.draw [Yd 0 (oM 20 5) 0 0,Yd 1 (oM 21 6) 0 0,Yd 2 (Yl 22 1 2) 0 0,Yd 3 (oM 23 6) 0 0,Yd 4 (Yc 24 63 [k22,k23]) 12 0,Yd 5 (Yl 25 1 3) 0 0,Yd 6 (oM 26 6) 0 0,Yd 7 (Yc 27 63 [k25,k26]) 124 1,Yd 8 (Yo 28 .or k24 k27) 252 1,
 Yd 9 (Yi 29 1 20 21) 511 1,Yd 10 (Ys 1 29 28) 1023 1]))) (Yg [Yo 30 .add k17 q1,oM 17 30]))))))) (Yr [oM 31 5,oO 32 (.build [nS] [(0,1,k31)]),Ys 1 4 32] .ret))))
theorem ok59:Y4 59 33 ir59 [.cell 4 true 1]:=Yf Tryz.func59 Tryz.ntmps59
def ok60 := Xm Tryz.func60 Tryz.ntmps60
def ok61 := Xm Tryz.func61 Tryz.ntmps61
def ok62 := Xm Tryz.func62 Tryz.ntmps62
def ok63 := Xm Tryz.func63 Tryz.ntmps63
def ok64 := Xm Tryz.func64 Tryz.ntmps64
def ok65 := Xm Tryz.func65 Tryz.ntmps65
def ir66:X6:=(Yr [Yb 1 0,oO 2 (.mov (.const nS)),Yz 3 [nS],Yj 4 kF,Yj 5 q0] (sQ (Yr [Yl 12 6 1,Yc 13 18 [k12],oM 6 13] (Yr [oM 14 6,Yo 15 .neq k14 q0] (.cond k15 (Yr [oM 16 6,oO 2 (.mov (.const nS)),
 ⟨none,.store 1 k3 (.const nS),none⟩,Yj 4 kF,oM 5 16] .ret) .skip))) (sQ (Yr [Yl 17 6 1,Yc 18 8 [k17],Yh 19 18] (.cond k19 (Yr [oO 2 (.mov (.const nS)),⟨none,.store 1 k3 (.const nS),none⟩,Yj 4 kF,Yj 5 q15] .ret) .skip)) (Yr [Yl 21 6 1,
 Yc 22 124 [k21],oM 20 22,Yx 23 20 0,Yx 24 20 1,Yz 7 [nS],Ys 1 7 23,oM 8 24] (Yr [Ya 25 2 1,Yl 26 1 25,Yz 9 [nS],Ys 1 9 26] (sQ (Yr [Yj 10 q0] (.block 0 (.loop (sQ (Yr [oM 27 10,oM 28 8,Yn 29 28,Yo 30 .leq k27 k29] (.cond k30 .skip (.exit 0))) (sQ (.block 1 (sQ (Yr [Yl 33 6 1,
 Yl 34 1 9,Yc 35 15 [k33,k34]] (.cond k35 (Yr [oM 36 8,oM 37 10,oM 38 10,oO 39 (.slc 1 k36 none (some k37) (some k38)),oM 2 39,⟨none,.store 1 k3 (.const nS),none⟩,Yj 4 kT,Yj 5 q0] .ret) .skip)) (Yr [oM 40 10,
 oM 41 8,Yn 42 41,Yo 43 .lss k40 k42] (.cond k43 (.draw [Yd 0 (Yl 44 1 9) 0 0,Yd 1 (Ya 45 3 1) 0 0,Yd 2 (Yk 46 45) 2 0,Yd 3 (oM 47 8) 0 0,Yd 4 (oM 48 10) 0 0,Yd 5 (Yi 49 1 47 48) 24 0,Yd 6 (Yk 50 49) 56 0,
 Yd 7 (Yi 51 5 46 50) 126 0,Yd 8 (Ya 52 3 51) 254 0,Yd 9 (Yk 53 52) 510 0,Yd 10 (Yc 54 101 [k44,k53]) 1023 1,Yd 11 (Ys 1 9 54) 2047 1]) .skip)))) (Yg [oM 31 10,Yo 32 .add k31 q1,oM 10 32])))))) (sQ (sQ (.draw [Yd 0 (Yl 55 6 1) 0 0,
 Yd 1 (Yc 56 19 [k55]) 1 0,Yd 2 (Yl 57 1 7) 0 0,Yd 3 (Yc 58 125 [k56,k57]) 7 1,Yd 4 (Yc 59 64 [k58]) 15 1]) (.block 2 (.range k59 [60] [(11,k60)] (.block 3 (.draw [Yd 0 (Yk 61 3) 0 1,Yd 1 (oM 62 11) 0 0,
 Yd 2 (oO 63 (.bslice [z0] 1 [(0,k62)])) 2 0,Yd 3 (Yc 64 12 [k63]) 6 0,Yd 4 (oO 65 (.build [nS,nS] [(0,1,k64)])) 14 0,Yd 5 (oO 66 (.bslice [nS,nS] 1 [(0,k65)])) 30 0,Yd 6 (oO 67 (.append [nS,nS] 48 k61 k66)) 63 1,
 Yd 7 (Ys 1 3 67) 127 1]))))) (sQ (.draw [Yd 0 (Yk 68 3) 0 1,Yd 1 (oO 2 (.mov (.const nS))) 0 0,Yd 2 (Ys 1 3 68) 3 1,Yd 3 (Yj 4 kF) 7 1,Yd 4 (Yj 5 q0) 15 1]) .ret))))))))
theorem ok66:Y4 66 69 ir66 [.tmp 2,.cell 3 false 1,.tmp 4,.tmp 5]:=Yf Tryz.func66 Tryz.ntmps66
def ir67:X6:=(Yr [Yb 2 0,oO 4 (.mov (.const nS)),oO 5 (.mov (.const nS)),Yj 6 kF,Yj 7 q0] (sQ (Yr [Yl 17 6 2,Yc 18 18 [k17],oM 8 18] (Yr [oM 19 8,Yo 20 .neq k19 q0] (.cond k20 (Yr [oM 21 8,oO 4 (.mov (.const nS)),
 oO 5 (.mov (.const nS)),Yj 6 kF,oM 7 21] .ret) .skip))) (sQ (Yr [oM 22 1,Yo 23 .lss k22 q1] (.cond k23 (Yr [oO 4 (.mov (.const nS)),oO 5 (.mov (.const nS)),Yj 6 kF,Yj 7 q1] .ret) .skip)) (Yr [Yl 25 6 2,
 Yc 26 126 [k25],oM 24 26,Yx 27 24 0,Yx 28 24 1,oM 9 27,oM 7 28] (sQ (Yr [oM 29 7,Yo 30 .neq k29 q0] (.cond k30 (Yr [oM 31 7,oO 4 (.mov (.const nS)),oO 5 (.mov (.const nS)),Yj 6 kF,oM 7 31] .ret) .skip)) (Yr [Yl 33 6 2,
 Yc 34 127 [k33],oM 32 34,Yx 35 32 0,Yx 36 32 1,oM 10 35,oM 7 36] (sQ (Yr [oM 37 7,Yo 38 .neq k37 q0] (.cond k38 (Yr [oM 39 7,oO 4 (.mov (.const nS)),oO 5 (.mov (.const nS)),Yj 6 kF,oM 7 39] .ret) .skip)) (Yr [oM 40 1,
 oO 41 (.build [nS,nS,z0] [(2,1,k40)]),Yb 42 41,oM 11 42] (sQ (Yr [oM 43 10,Yn 44 43,Yj 45 q0] (.block 0 (.loop (Yr [Yo 46 .lss k45 k44] (sQ (.cond k46 .skip (.exit 0)) (sQ (.block 1 (Yr [Yi 47 2 43 45,
 Yl 48 2 47,Yz 13 [nS,nS],Ys 2 13 48] (Yr [oM 49 11,Yl 50 2 13,oO 51 (.build [z0,z0] [(0,1,(.const (.int .i64 (-1)))),(1,1,q0)]),Yc 52 128 [k49,k50,k51],oM 14 52] (Yr [oM 53 14,Yo 54 .neq k53 q0] (.cond k54 (Yr [oM 55 14,
 oO 4 (.mov (.const nS)),oO 5 (.mov (.const nS)),Yj 6 kF,oM 7 55] .ret) .skip))))) (Yg [Yo 56 .add k45 q1,oM 45 56]))))))) (sQ (Yr [Yj 15 q0] (.block 2 (.loop (sQ (Yr [oM 57 15,oM 58 11,oO 59 (.nilck k58),
 Ya 60 0 59,Yk 61 60,Yn 62 61,Yo 63 .lss k57 k62] (.cond k63 .skip (.exit 2))) (sQ (.block 3 (sQ (sQ (.draw [Yd 0 (oM 66 11) 0 0,Yd 1 (oO 67 (.nilck k66)) 1 0,Yd 2 (Ya 68 0 67) 3 0,Yd 3 (Yk 69 68) 7 0,Yd 4 (oM 70 15) 0 0,
 Yd 5 (Yi 71 2 69 70) 31 0,Yd 6 (Yl 72 2 71) 63 0,Yd 7 (Ya 73 2 2) 0 0,Yd 8 (Yl 74 1 73) 128 0,Yd 9 (Yc 75 102 [k72,k74]) 511 1]) (.cond k75 (Yr [oM 76 11,oM 77 15,Yc 78 129 [k76,k77],oM 4 78,oO 5 (.mov (.const nS)),
 Yj 6 kT,Yj 7 q0] .ret) .skip)) (Yr [oM 79 9,oM 80 11,oM 81 15,Yc 82 130 [k79,k80,k81],oM 16 82] (Yr [oM 83 16,Yo 84 .neq k83 q0] (.cond k84 (Yr [oM 85 16,oO 4 (.mov (.const nS)),oO 5 (.mov (.const nS)),
 Yj 6 kF,oM 7 85] .ret) .skip))))) (Yg [oM 64 15,Yo 65 .add k64 q1,oM 15 65])))))) (sQ (.draw [Yd 0 (oM 86 11) 0 1,Yd 1 (oO 87 (.nilck k86)) 1 1,Yd 2 (Ya 88 0 87) 3 1,Yd 3 (Yk 89 88) 7 1,Yd 4 (oO 4 (.mov (.const nS))) 0 0,
 Yd 5 (oM 5 89) 31 1,Yd 6 (Yj 6 kF) 63 1,Yd 7 (Yj 7 q0) 127 1]) .ret)))))))))))
theorem ok67:Y4 67 90 ir67 [.tmp 4,.tmp 5,.tmp 6,.tmp 7]:=Yf Tryz.func67 Tryz.ntmps67
def ir68:X6:=(Yr [Yb 2 0,oO 4 (.mov (.const nS)),oO 5 (.mov (.const nS)),Yj 6 kF,Yj 7 q0] (Yr [Ya 16 6 2,Yl 17 6 16,oM 18 1,Yc 19 131 [k17,k18],oM 15 19,Yx 20 15 0,Yx 21 15 1,oO 8 (.alloc [z0,(.bool false),
 nS]),Ys 3 8 20,oM 9 21] (sQ (Yr [oM 22 9,Yo 23 .neq k22 q0,oM 24 23,oF 24 25 (.faddr 1 k8),oF 24 26 (.load false 1 k25),Yq 27 24 26] (.cond k27 (sQ (.draw [Yd 0 (Ya 28 2 8) 0 0,Yd 1 (Yk 29 28) 1 0,Yd 2 (Ya 30 1 8) 0 0,
 Yd 3 (Yk 31 30) 4 0,Yd 4 (oM 32 9) 0 0,Yd 5 (oM 4 29) 3 0,Yd 6 (oO 5 (.mov (.const nS))) 35 0,Yd 7 (oM 6 31) 111 1,Yd 8 (oM 7 32) 255 1]) .ret) .skip)) (Yr [Ya 34 6 2,Yl 35 6 34,oM 36 1,Yc 37 132 [k35,
 k36],oM 33 37,Yx 38 33 0,Yx 39 33 1,oM 10 38,oM 9 39] (sQ (Yr [oM 40 9,Yo 41 .neq k40 q0] (.cond k41 (Yr [oM 42 9,oO 4 (.mov (.const nS)),oO 5 (.mov (.const nS)),Yj 6 kF,oM 7 42] .ret) .skip)) (Yr [oO 11 (.mov (.const nS))] (sQ (Yr [oM 43 10,
 Yn 44 43,Yj 45 q0] (.block 0 (.loop (Yr [Yo 46 .lss k45 k44] (sQ (.cond k46 .skip (.exit 0)) (sQ (.block 1 (Yr [Yi 47 1 43 45,Yl 48 1 47,Yz 13 [nS],Ys 1 13 48] (.draw [Yd 0 (oM 49 11) 0 0,Yd 1 (Yl 50 1 13) 0 0,
 Yd 2 (Ya 51 13 2) 0 0,Yd 3 (Yl 52 1 51) 4 0,Yd 4 (Yl 53 1 13) 0 0,Yd 5 (Yc 54 125 [k52,k53]) 28 0,Yd 6 (oO 55 (.build [nS,nS] [(0,1,k50),(1,1,k54)])) 62 1,Yd 7 (oO 56 (.bslice [nS,nS] 1 [(0,k55)])) 126 1,
 Yd 8 (oO 57 (.append [nS,nS] 48 k49 k56)) 255 1,Yd 9 (oM 11 57) 511 1]))) (Yg [Yo 58 .add k45 q1,oM 45 58]))))))) (Yr [oO 60 (.build [nS,nS] []),oM 61 11,Yc 62 133 [k60,k61],oM 59 62,Yx 63 59 0,Yx 64 59 1,
 oM 14 63,oM 9 64] (Yr [oM 65 14,oM 66 9,oO 4 (.mov (.const nS)),oM 5 65,Yj 6 kF,oM 7 66] .ret)))))))))
theorem ok68:Y4 68 67 ir68 [.tmp 4,.tmp 5,.tmp 6,.tmp 7]:=Yf Tryz.func68 Tryz.ntmps68
def ok69 := Xm Tryz.func69 Tryz.ntmps69
def ok70 := Xm Tryz.func70 Tryz.ntmps70
def ok71 := Xm Tryz.func71 Tryz.ntmps71
def ir72:X6:=(Yr [Yj 4 q0] (sQ (Yr [oM 6 0,Yn 7 6,Yj 8 q0] (.block 0 (.loop (Yr [Yo 9 .lss k8 k7] (sQ (.cond k9 .skip (.exit 0)) (sQ (.block 1 (Yr [oM 10 8,oM 5 10] (Yr [oM 11 1,oM 12 0,oM 13 5,Yi 14 2 12 13,
 Yl 15 2 14,oO 16 (.call k11 [k15])] (.cond k16 (Yr [oM 17 5,oM 4 17] .ret) .skip)))) (Yg [Yo 18 .add k8 q1,oM 8 18]))))))) (Yr [oO 4 (.mov (.const (.int .i64 (-1))))] .ret)))
theorem ok72:Y4 72 19 ir72 [.tmp 4]:=Yf Tryz.func72 Tryz.ntmps72
def ok73 := Xm Tryz.func73 Tryz.ntmps73
def ok74 := Xm Tryz.func74 Tryz.ntmps74
def ok75 := Xm Tryz.func75 Tryz.ntmps75
def ok76 := Xm Tryz.func76 Tryz.ntmps76
def ok77 := Xm Tryz.func77 Tryz.ntmps77
def ok78 := Xm Tryz.func78 Tryz.ntmps78
def ok79 := Xm Tryz.func79 Tryz.ntmps79
def ok80 := Xm Tryz.func80 Tryz.ntmps80
def ok81 := Xm Tryz.func81 Tryz.ntmps81
def ok82 := Xm Tryz.func82 Tryz.ntmps82
def ok83 := Xm Tryz.func83 Tryz.ntmps83
def ok84 := Xm Tryz.func84 Tryz.ntmps84
def ok85 := Xm Tryz.func85 Tryz.ntmps85
def ir86:X6:=(Yr [Yb 2 0,Yz 4 [nS]] (sQ (Yr [Yl 6 1 2,oM 7 1,Yc 8 22 [k6,k7],Yh 9 8] (.cond k9 (Yr [Yl 10 1 2,Ys 1 4 10] .ret) .skip)) (Yr [oO 11 (.bslice [Y5] 0 []),Ya 12 0 2,Yk 13 12,oO 14 (.append [Y5] 8 k11 k13),
 oM 5 14] (sQ (.draw [Yd 0 (oM 15 5) 0 1,Yd 1 (oM 16 1) 0 1,Yd 2 (Yo 17 .quo k16 q64) 2 1,Yd 3 (Yi 18 1 15 17) 7 1,Yd 4 (Yk 19 18) 15 1,Yd 5 (oM 20 1) 0 0,Yd 6 (Yo 21 .rem k20 q64) 32 0,Yd 7 (Yo 22 .shl (kW 1) k21) 96 0,
 Yd 8 (Yo 23 .andNot k19 k22) 255 1,Yd 9 (Yi 24 1 15 17) 511 1,Yd 10 (Ys 1 24 23) 1023 1]) (Yr [oM 25 5,Yc 26 40 [k25],Ys 1 4 26] .ret)))))
theorem ok86:Y4 86 27 ir86 [.cell 4 true 1]:=Yf Tryz.func86 Tryz.ntmps86
def ok87 := Xm Tryz.func87 Tryz.ntmps87
set_option maxRecDepth 100000
def ir88:X6:=(Yr [Yb 1 0,oO 2 (.mov (.const nS))] (Yr [Ya 11 2 1,Yk 12 11,oO 13 (.bslice [Y5] 1 [(0,k12)]),oM 3 13] (sQ (Yr [Yj 4 q0] (.block 0 (.loop (sQ (Yr [oM 14 4,oM 15 3,Yn 16 15,Yo 17 .lss k14 k16] (.cond k17 .skip (.exit 0))) (sQ (.block 1 (Yr [Ya 20 3 1,
 Yk 21 20,Yn 22 21,Yj 23 q0] (.block 2 (.loop (Yr [Yo 24 .lss k23 k22] (sQ (.cond k24 .skip (.exit 2)) (sQ (.block 3 (Yr [oM 25 23,oM 5 25] (sQ (.draw [Yd 0 (Yl 27 6 1) 0 0,Yd 1 (oM 28 3) 0 0,Yd 2 (oM 29 4) 0 0,
 Yd 3 (Yi 30 1 28 29) 6 0,Yd 4 (Yk 31 30) 14 0,Yd 5 (oM 32 5) 0 0,Yd 6 (Yc 33 94 [k27,k31,k32]) 63 1,Yd 7 (oM 26 33) 127 1,Yd 8 (Yx 34 26 0) 255 1,Yd 9 (Yx 35 26 1) 255 1,Yd 10 (oM 6 34) 511 1,Yd 11 (oM 7 35) 2047 1]) (sQ (Yr [oM 36 7,
 Yh 37 36] (.cond k37 (.exit 3) .skip)) (Yr [Yj 8 kF] (sQ (Yr [oM 38 3,Yn 39 38,Yj 40 q0] (.block 4 (.loop (Yr [Yo 41 .lss k40 k39] (sQ (.cond k41 .skip (.exit 4)) (sQ (.block 5 (Yr [Yi 42 1 38 40,Yk 43 42,
 oM 10 43] (Yr [oM 44 10,oM 45 6,Yo 46 .eql k44 k45] (.cond k46 (Yg [Yj 8 kT]) .skip)))) (Yg [Yo 47 .add k40 q1,oM 40 47]))))))) (Yr [oM 48 8,Yh 49 48] (.cond k49 (Yg [oM 50 3,oM 51 6,oO 52 (.bslice [Y5] 1 [(0,
 k51)]),oO 53 (.append [Y5] 8 k50 k52),oM 3 53]) .skip)))))))) (Yg [Yo 54 .add k23 q1,oM 23 54])))))))) (Yg [oM 18 4,Yo 19 .add k18 q1,oM 4 19])))))) (Yr [oM 55 3,oM 2 55] .ret))))
theorem ok88:Y4 88 56 ir88 [.tmp 2]:=Yf Tryz.func88 Tryz.ntmps88
def ir89:X6:=(Yr [Yb 2 0,Yj 4 kF] (sQ (.draw [Yd 0 (Ya 5 5 2) 0 0,Yd 1 (Yk 6 5) 1 0,Yd 2 (Ya 7 1 2) 0 0,Yd 3 (Yk 8 7) 4 0,Yd 4 (oM 9 1) 0 0,Yd 5 (Yc 10 48 [k8,k9]) 28 0,Yd 6 (Yc 11 92 [k6,k10]) 63 1,
 Yd 7 (oM 4 11) 127 1]) .ret))
theorem ok89:Y4 89 12 ir89 [.tmp 4]:=Yf Tryz.func89 Tryz.ntmps89
def ok90 := Xm Tryz.func90 Tryz.ntmps90
def ir91:X6:=(Yr [Yb 1 0,oO 2 (.alloc [Y5]),oO 3 (.alloc [(.bool false)])] (Yr [oO 4 (.alloc [Y5]),⟨none,.store 1 k4 (kW 0),none⟩] (sQ (Yr [Yl 6 1 1,Yc 7 64 [k6]] (.block 0 (.range k7 [8] [(5,k8)] (.block 1 (sQ (Yr [oM 9 5,
 Yo 10 .gtr k9 q60] (.cond k10 (Yr [⟨none,.store 1 k2 (kW 0),none⟩,⟨none,.store 1 k3 kF,none⟩] .ret) .skip)) (.draw [Yd 0 (Yk 11 4) 0 1,Yd 1 (oM 12 5) 0 0,Yd 2 (Yo 13 .shl (kW 1) k12) 2 0,Yd 3 (Yo 14 .or k11 k13) 7 1,
 Yd 4 (Ys 1 4 14) 15 1])))))) (Yr [Yk 15 4,Ys 1 2 15,⟨none,.store 1 k3 kT,none⟩] .ret))))
theorem ok91:Y4 91 16 ir91 [.cell 2 false 1,.cell 3 false 1]:=Yf Tryz.func91 Tryz.ntmps91
def ok92 := Xm Tryz.func92 Tryz.ntmps92
def ir93:X6:=(Yr [Yb 2 0,Yj 4 kF] (sQ (.draw [Yd 0 (Ya 5 4 2) 0 0,Yd 1 (Yk 6 5) 1 0,Yd 2 (Ya 7 1 2) 0 0,Yd 3 (Yk 8 7) 4 0,Yd 4 (oM 9 1) 0 0,Yd 5 (Yc 10 48 [k8,k9]) 28 0,Yd 6 (Yc 11 92 [k6,k10]) 63 1,
 Yd 7 (Yh 12 11) 127 1,Yd 8 (oM 4 12) 255 1]) .ret))
theorem ok93:Y4 93 13 ir93 [.tmp 4]:=Yf Tryz.func93 Tryz.ntmps93
def ir94:X6:=(Yr [Yb 3 0,Yj 6 (kW 0),Yj 7 kF] (sQ (Yr [oM 11 2,Yo 12 .lss k11 q0,oM 13 12,oF 13 14 (.mov k2),oF 13 15 (.faddr 3 k3),oF 13 16 (.load false 1 k15),oF 13 17 (.len k16),oF 13 18 (.bin .geq .num k14 k17),
 Yq 19 13 18] (.cond k19 (Yr [Yj 6 (kW 0),Yj 7 kF] .ret) .skip)) (Yr [Ya 20 3 3,Yk 21 20,oM 22 2,Yi 23 5 21 22,Yl 24 5 23,oO 8 (.alloc [(.bool false),Y5,Y5,z0,z0]),Ys 5 8 24] (Yr [Ya 25 3 8,Yk 26 25,oO 27 (.conv .u64 k26),
 Yo 28 .shl (kW 1) k27,oM 9 28] (Yr [oM 29 1,oM 30 9,Yo 31 .or k29 k30,oM 10 31] (sQ (Yr [Ya 32 0 8,Yk 33 32] (.cond k33 (Yg [oM 34 1,oM 35 9,Yo 36 .andNot k34 k35,oM 10 36]) .skip)) (sQ (Yr [oM 37 10,oM 38 1,
 Yo 39 .eql k37 k38,oM 40 39,oF 40 41 (.load true 6 k3),oF 40 42 (.mov k10),oF 40 43 (kC 93 [k41,k42]),oF 40 44 (.una .not k43),Yq 45 40 44] (.cond k45 (Yr [Yj 6 (kW 0),Yj 7 kF] .ret) .skip)) (sQ (sQ (.draw [Yd 0 (Ya 46 0 8) 0 1,
 Yd 1 (Yk 47 46) 1 1,Yd 2 (Yh 48 47) 3 1,Yd 3 (oM 49 48) 7 1,Yd 4 (oT 49 50 (.faddr 1 k8)) 15 0,Yd 5 (oT 49 51 (.load true 2 k50)) 31 0,Yd 6 (oT 49 52 (.faddr 1 k3)) 15 0,Yd 7 (oT 49 53 (.load false 1 k52)) 79 0,
 Yd 8 (oT 49 54 (.mov k1)) 15 0,Yd 9 (oT 49 55 (kC 48 [k53,k54])) 463 0,Yd 10 (oT 49 56 (kC 47 [k51,k55])) 1023 1,Yd 11 (oT 49 57 (.una .not k56)) 2047 1,Yd 12 (Ym 58 49 57) 4095 1]) (.cond k58 (Yr [Yj 6 (kW 0),
 Yj 7 kF] .ret) .skip)) (Yr [oM 59 10,oM 6 59,Yj 7 kT] .ret)))))))))
theorem ok94:Y4 94 60 ir94 [.tmp 6,.tmp 7]:=Yf Tryz.func94 Tryz.ntmps94
def ok96 := Xm Tryz.func96 Tryz.ntmps96
def ok97 := Xm Tryz.func97 Tryz.ntmps97
def ir98:X6:=(Yr [oO 2 (.mov (.const nS))] (sQ (Yr [oM 6 0,Yn 7 6,Yo 8 .lss k7 q2] (.cond k8 (Yr [oM 9 0,oM 2 9] .ret) .skip)) (sQ (Yr [Yj 3 q1] (.block 0 (.loop (sQ (Yr [oM 10 3,oM 11 0,Yn 12 11,Yo 13 .lss k10 k12] (.cond k13 .skip (.exit 0))) (sQ (.block 1 (sQ (.draw [Yd 0 (oM 16 0) 0 0,
 Yd 1 (oM 17 3) 0 0,Yd 2 (Yi 18 2 16 17) 3 0,Yd 3 (Yl 19 2 18) 7 0,Yd 4 (oM 20 0) 0 0,Yd 5 (oM 21 3) 0 0,Yd 6 (Yo 22 .sub k21 q1) 32 0,Yd 7 (Yi 23 2 20 22) 112 0,Yd 8 (Yl 24 2 23) 240 0,Yd 9 (oO 25 (.bin .eql (.cells [0,
 0]) k19 k24)) 511 1]) (.cond k25 (Yr [oM 26 0,oM 27 3,oO 28 (.slc 2 k26 (some k27) none none),oM 4 28] (sQ (Yr [Yj 5 q1] (.block 2 (.loop (sQ (Yr [oM 29 5,oM 30 4,Yn 31 30,Yo 32 .lss k29 k31] (.cond k32 .skip (.exit 2))) (sQ (.block 3 (sQ (.draw [Yd 0 (oM 35 4) 0 0,
 Yd 1 (oM 36 5) 0 0,Yd 2 (Yi 37 2 35 36) 3 0,Yd 3 (Yl 38 2 37) 7 0,Yd 4 (oM 39 4) 0 0,Yd 5 (oM 40 5) 0 0,Yd 6 (Yo 41 .sub k40 q1) 32 0,Yd 7 (Yi 42 2 39 41) 112 0,Yd 8 (Yl 43 2 42) 240 0,Yd 9 (oO 44 (.bin .neq (.cells [0,
 0]) k38 k43)) 511 1]) (.cond k44 (Yr [oM 45 0,oM 46 3,oM 47 4,oM 48 5,Yi 49 2 47 48,Yl 50 2 49,Yi 51 2 45 46,Ys 2 51 50] (Yg [oM 52 3,Yo 53 .add k52 q1,oM 3 53])) .skip))) (Yg [oM 33 5,Yo 34 .add k33 q1,
 oM 5 34])))))) (Yr [oM 54 0,oM 55 3,oO 56 (.slc 2 k54 (some k55) none none),⟨none,.clear [z0,z0] k56,none⟩] (Yr [oM 57 0,oM 58 3,oO 59 (.slc 2 k57 none (some k58) none),oM 2 59] .ret)))) .skip))) (Yg [oM 14 3,
 Yo 15 .add k14 q1,oM 3 15])))))) (Yr [oM 60 0,oM 2 60] .ret))))
theorem ok98:Y4 98 61 ir98 [.tmp 2]:=Yf Tryz.func98 Tryz.ntmps98
def ir99:X6:=(Yr [Yj 2 kF] (Yr [oM 9 0,oO 10 (.nilck k9),Ya 11 0 10,Yk 12 11,oO 13 (.mslice [z0] 8 k12 k12),oM 3 13] (sQ (Yr [oM 14 0,oO 15 (.nilck k14),Ya 16 1 15,Yk 17 16,Yn 18 17,Yj 19 q0] (.block 0 (.loop (Yr [Yo 20 .lss k19 k18] (sQ (.cond k20 .skip (.exit 0)) (sQ (.block 1 (Yr [Yi 21 2 17 19,
 Yl 22 2 21,Yz 5 [z0,z0],Ys 2 5 22] (Yg [oM 23 3,oO 24 (.iaddrA 2 1 k5 q1),Yk 25 24,Yi 26 1 23 25,Yk 27 26,Yo 28 .add k27 q1,Yi 29 1 23 25,Ys 1 29 28]))) (Yg [Yo 30 .add k19 q1,oM 19 30]))))))) (sQ (.block 2 (.loop (sQ (sQ (.draw [Yd 0 (oM 31 0) 0 0,
 Yd 1 (oO 32 (.nilck k31)) 1 0,Yd 2 (Ya 33 4 32) 3 0,Yd 3 (Yk 34 33) 7 0,Yd 4 (Yn 35 34) 15 0,Yd 5 (oM 36 0) 0 0,Yd 6 (oO 37 (.nilck k36)) 32 0,Yd 7 (Ya 38 0 37) 96 0,Yd 8 (Yk 39 38) 224 0,Yd 9 (Yo 40 .lss k35 k39) 511 1]) (.cond k40 .skip (.exit 2))) (.block 3 (Yr [oM 41 3,
 Yc 42 144 [k41,q0],oM 6 42] (sQ (Yr [oM 43 6,Yo 44 .lss k43 q0] (.cond k44 (Yr [Yj 2 kF] .ret) .skip)) (Yr [oM 45 3,oM 46 6,Yi 47 1 45 46,⟨none,.store 1 k47 (.const (.int .i64 (-1))),none⟩] (Yr [oM 48 0,
 oM 49 0,oO 50 (.nilck k49),Ya 51 4 50,Yk 52 51,oM 53 6,oO 54 (.bslice [z0] 1 [(0,k53)]),oO 55 (.append [z0] 8 k52 k54),oO 56 (.nilck k48),Ya 57 4 56,Ys 1 57 55] (Yr [oM 58 0,oO 59 (.nilck k58),Ya 60 1 59,
 Yk 61 60,Yn 62 61,Yj 63 q0] (.block 4 (.loop (Yr [Yo 64 .lss k63 k62] (sQ (.cond k64 .skip (.exit 4)) (sQ (.block 5 (Yr [Yi 65 2 61 63,Yl 66 2 65,Yz 8 [z0,z0],Ys 2 8 66] (Yr [oO 67 (.iaddrA 2 1 k8 q0),
 Yk 68 67,oM 69 6,Yo 70 .eql k68 k69] (.cond k70 (Yg [oM 71 3,oO 72 (.iaddrA 2 1 k8 q1),Yk 73 72,Yi 74 1 71 73,Yk 75 74,Yo 76 .sub k75 q1,Yi 77 1 71 73,Ys 1 77 76]) .skip)))) (Yg [Yo 78 .add k63 q1,oM 63 78]))))))))))))))) (Yr [Yj 2 kT] .ret)))))
theorem ok99:Y4 99 79 ir99 [.tmp 2]:=Yf Tryz.func99 Tryz.ntmps99
def ir100:X6:=(Yr [Yb 1 0] (sQ (.draw [Yd 0 (Yk 10 1) 0 0,Yd 1 (Yk 11 1) 0 0,Yd 2 (Yk 12 1) 0 0,Yd 3 (oO 13 (.nilck k12)) 4 0,Yd 4 (Ya 14 0 13) 12 0,Yd 5 (Yk 15 14) 28 0,Yd 6 (oO 16 (.mslice [nS] 24 k15 k15)) 60 0,
 Yd 7 (Yk 17 1) 0 0,Yd 8 (oO 18 (.nilck k17)) 128 0,Yd 9 (Ya 19 0 18) 384 0,Yd 10 (Yk 20 19) 896 0,Yd 11 (oO 21 (.mslice [nS] 24 k20 k20)) 1920 0,Yd 12 (oO 22 (.nilck k10)) 2045 0,Yd 13 (Ya 23 2 22) 6141 0,
 Yd 14 (Ys 1 23 16) 14333 28666,Yd 15 (oO 24 (.nilck k11)) 32767 1,Yd 16 (Ya 25 3 24) 65535 1,Yd 17 (Ys 1 25 21) 131071 1]) (Yr [Yk 26 1,oO 27 (.nilck k26),Ya 28 0 27,Yk 29 28,oO 30 (.mslice [nS] 24 k29 k29),
 oM 2 30] (sQ (Yr [Yk 31 1,oO 32 (.nilck k31),Ya 33 1 32,Yk 34 33,Yn 35 34,Yj 36 q0] (.block 0 (.loop (Yr [Yo 37 .lss k36 k35] (sQ (.cond k37 .skip (.exit 0)) (sQ (.block 1 (Yr [Yi 38 2 34 36,Yl 39 2 38,
 Yz 4 [z0,z0],Ys 2 4 39] (.draw [Yd 0 (oM 40 2) 0 0,Yd 1 (oO 41 (.iaddrA 2 1 k4 q1)) 0 0,Yd 2 (Yk 42 41) 2 0,Yd 3 (oM 43 2) 0 0,Yd 4 (oO 44 (.iaddrA 2 1 k4 q1)) 0 0,Yd 5 (Yk 45 44) 16 0,Yd 6 (Yi 46 1 43 45) 56 0,
 Yd 7 (Yk 47 46) 120 0,Yd 8 (oO 48 (.iaddrA 2 1 k4 q0)) 0 0,Yd 9 (Yk 49 48) 256 0,Yd 10 (oO 50 (.bslice [z0] 1 [(0,k49)])) 768 0,Yd 11 (oO 51 (.append [z0] 8 k47 k50)) 2040 4080,Yd 12 (Yi 52 1 40 42) 4095 1,
 Yd 13 (Ys 1 52 51) 8191 1]))) (Yg [Yo 53 .add k36 q1,oM 36 53]))))))) (Yr [Yk 54 1,oO 55 (.nilck k54),Ya 56 4 55,Yk 57 56,Yn 58 57,Yj 59 q0] (.block 2 (.loop (Yr [Yo 60 .lss k59 k58] (sQ (.cond k60 .skip (.exit 2)) (sQ (.block 3 (Yr [Yi 61 1 57 59,
 Yk 62 61,Yz 6 [z0],Ys 1 6 62] (sQ (Yr [oM 63 2,Yk 64 6,Yi 65 1 63 64,Yk 66 65,Yn 67 66,Yj 68 q0] (.block 4 (.loop (Yr [Yo 69 .lss k68 k67] (sQ (.cond k69 .skip (.exit 4)) (sQ (.block 5 (Yr [Yi 70 1 66 68,
 Yk 71 70,oM 8 71] (.draw [Yd 0 (Yk 72 1) 0 0,Yd 1 (oO 73 (.nilck k72)) 1 0,Yd 2 (Ya 74 2 73) 3 0,Yd 3 (Yk 75 74) 7 0,Yd 4 (Yk 76 6) 0 0,Yd 5 (Yk 77 1) 0 0,Yd 6 (oO 78 (.nilck k77)) 32 0,Yd 7 (Ya 79 2 78) 96 0,
 Yd 8 (Yk 80 79) 224 0,Yd 9 (Yk 81 6) 0 0,Yd 10 (Yi 82 1 80 81) 992 0,Yd 11 (Yl 83 1 82) 2016 0,Yd 12 (Yk 84 1) 0 0,Yd 13 (oO 85 (.nilck k84)) 4096 0,Yd 14 (Ya 86 2 85) 12288 0,Yd 15 (Yk 87 86) 28672 0,
 Yd 16 (oM 88 8) 0 0,Yd 17 (Yi 89 1 87 88) 126976 0,Yd 18 (Yl 90 1 89) 258048 0,Yd 19 (Yc 91 59 [k83,k90]) 524256 0,Yd 20 (oM 92 8) 0 0,Yd 21 (Yc 93 101 [k91,k92]) 2097120 0,Yd 22 (Yi 94 1 75 76) 4194303 1,
 Yd 23 (Ys 1 94 93) 8388607 1]))) (Yg [Yo 95 .add k68 q1,oM 68 95]))))))) (sQ (.draw [Yd 0 (Yk 96 1) 0 0,Yd 1 (oO 97 (.nilck k96)) 1 0,Yd 2 (Ya 98 2 97) 3 0,Yd 3 (Yk 99 98) 7 0,Yd 4 (Yk 100 6) 0 0,Yd 5 (Yi 101 1 99 100) 31 1,
 Yd 6 (Yl 102 1 101) 63 1,Yd 7 (Yc 103 64 [X7m]) 127 1]) (.block 6 (.range X7i [104] [(9,X6O)] (.block 7 (.draw [Yd 0 (Yk 105 1) 0 0,Yd 1 (oO 106 (.nilck X84)) 1 0,Yd 2 (Ya 107 3 106) 3 0,Yd 3 (Yk 108 107) 7 0,
 Yd 4 (oM 109 9) 0 0,Yd 5 (Yk 110 1) 0 0,Yd 6 (oO 111 (.nilck X7F)) 32 0,Yd 7 (Ya 112 3 111) 96 0,Yd 8 (Yk 113 112) 224 0,Yd 9 (oM 114 9) 0 0,Yd 10 (Yi 115 1 113 114) 992 0,Yd 11 (Yl 116 1 115) 2016 0,
 Yd 12 (Yk 117 6) 0 0,Yd 13 (Yc 118 101 [X7b,X7C]) 8160 0,Yd 14 (Yi 119 1 108 109) 16383 1,Yd 15 (Ys 1 119 118) 32767 1])))))))) (Yg [Yo 120 .add k59 q1,oM 59 120])))))))))))
theorem ok100:Y4 100 121 ir100 []:=Yf Tryz.func100 Tryz.ntmps100
def ir101:X6:=(Yr [Yb 2 0,Yz 4 [nS]] (sQ (Yr [oM 6 1,Yo 7 .lss k6 q0,oM 8 7,oF 8 9 (.mov k1),oF 8 10 (.bin .gtr .num k9 (kI 4095)),Yq 11 8 10,oM 12 11,oF 12 13 (.load true 1 k2),oF 12 14 (.mov k1),oF 12 15 (kC 22 [k13,
 k14]),Yq 16 12 15] (.cond k16 (Yr [Yl 17 1 2,Ys 1 4 17] .ret) .skip)) (Yr [Ya 18 0 2,Yk 19 18,Yn 20 19,oM 21 1,Yo 22 .quo k21 q64,Yo 23 .add k22 q1,oO 24 (.mx k20 k23),oO 25 (.mslice [Y5] 8 k24 k24),oM 5 25] (Yr [oM 26 5,
 Ya 27 0 2,Yk 28 27,oO 29 (.copy 1 k26 k28)] (sQ (.draw [Yd 0 (oM 30 5) 0 1,Yd 1 (oM 31 1) 0 1,Yd 2 (Yo 32 .quo k31 q64) 2 1,Yd 3 (Yi 33 1 30 32) 7 1,Yd 4 (Yk 34 33) 15 1,Yd 5 (oM 35 1) 0 0,Yd 6 (Yo 36 .rem k35 q64) 32 0,
 Yd 7 (Yo 37 .shl (kW 1) k36) 96 0,Yd 8 (Yo 38 .or k34 k37) 255 1,Yd 9 (Yi 39 1 30 32) 511 1,Yd 10 (Ys 1 39 38) 1023 1]) (Yr [oM 40 5,oO 41 (.build [nS] [(0,1,k40)]),Ys 1 4 41] .ret))))))
theorem ok101:Y4 101 42 ir101 [.cell 4 true 1]:=Yf Tryz.func101 Tryz.ntmps101
def ok102 := Xm Tryz.func102 Tryz.ntmps102
def ok103 := Xm Tryz.func103 Tryz.ntmps103
def ok104 := Xm Tryz.func104 Tryz.ntmps104
def ok105 := Xm Tryz.func105 Tryz.ntmps105
def ok106 := Xm Tryz.func106 Tryz.ntmps106
def ok107 := Xm Tryz.func107 Tryz.ntmps107
def ok108 := Xm Tryz.func108 Tryz.ntmps108
def ok109 := Xm Tryz.func109 Tryz.ntmps109
def ok110 := Xm Tryz.func110 Tryz.ntmps110
def ir111:X6:=(Yr [oO 6 (.mov (.const nP)),Yj 7 q0] (sQ (Yr [oM 8 0,oO 9 (.bin .eql .ptr k8 (.const nP))] (.cond k9 (Yr [oO 6 (.mov (.const nP)),Yj 7 q1] .ret) .skip)) (sQ (Yr [oM 10 0,oM 11 1,Yc 12 146 [k10,
 k11],Yh 13 12,oM 14 13,oF 14 15 (.mov k0),oF 14 16 (.mov k2),oF 14 17 (kC 146 [k15,k16]),oF 14 18 (.una .not k17),Yq 19 14 18] (.cond k19 (Yr [oO 6 (.mov (.const nP)),Yj 7 q2] .ret) .skip)) (sQ (Yr [oM 20 0,
 oO 21 (.nilck k20),Ya 22 1 21,Yk 23 22,oM 24 1,oM 25 2,oO 26 (.build [z0,z0] [(0,1,k24),(1,1,k25)]),Yc 27 147 [k23,k26]] (.cond k27 (Yr [oO 6 (.mov (.const nP)),Yj 7 q5] .ret) .skip)) (sQ (.draw [Yd 0 (oM 28 0) 0 0,
 Yd 1 (oO 29 (.nilck k28)) 1 0,Yd 2 (Ya 30 0 29) 3 0,Yd 3 (Yk 31 30) 7 0,Yd 4 (oM 32 0) 0 0,Yd 5 (Yc 33 148 [k32]) 16 0,Yd 6 (oM 34 1) 0 0,Yd 7 (oM 35 2) 0 0,Yd 8 (oO 36 (.build [z0,z0] [(0,1,k34),(1,1,
 k35)])) 192 0,Yd 9 (oO 37 (.bslice [z0,z0] 1 [(0,k36)])) 448 0,Yd 10 (oO 38 (.append [z0,z0] 16 k33 k37)) 1008 2016,Yd 11 (Yc 39 39 [k31,k38]) 2047 1,Yd 12 (Yx 40 39 0) 4095 1,Yd 13 (Yx 41 39 1) 4095 1,
 Yd 14 (oM 6 40) 16383 1,Yd 15 (oM 7 41) 32767 1]) .ret)))))
theorem ok111:Y4 111 42 ir111 [.tmp 6,.tmp 7]:=Yf Tryz.func111 Tryz.ntmps111
def ok112 := Xm Tryz.func112 Tryz.ntmps112
def ok113 := Xm Tryz.func113 Tryz.ntmps113
def ok114 := Xm Tryz.func114 Tryz.ntmps114
def ok115 := Xm Tryz.func115 Tryz.ntmps115
def ok116 := Xm Tryz.func116 Tryz.ntmps116
def ir117:X6:=(Yr [Yb 2 0,Yj 3 kF] (sQ (.draw [Yd 0 (Ya 4 0 2) 0 0,Yd 1 (Yl 5 1 4) 1 0,Yd 2 (Ya 6 1 2) 0 0,Yd 3 (Yl 7 1 6) 4 0,Yd 4 (Yc 8 59 [k5,k7]) 15 0,Yd 5 (Yl 9 1 1) 0 0,Yd 6 (Yc 10 87 [k8,k9]) 63 1,
 Yd 7 (oM 3 10) 127 1]) .ret))
theorem ok117:Y4 117 11 ir117 [.tmp 3]:=Yf Tryz.func117 Tryz.ntmps117
def ok118 := Xm Tryz.func118 Tryz.ntmps118
def ok119 := Xm Tryz.func119 Tryz.ntmps119
def ok120 := Xm Tryz.func120 Tryz.ntmps120
def ok121 := Xm Tryz.func121 Tryz.ntmps121
def ok122 := Xm Tryz.func122 Tryz.ntmps122
def ok123 := Xm Tryz.func123 Tryz.ntmps123
def ir124:X6:=(Yr [Yb 1 0,Yz 2 [nS],oO 3 (.mov (.const nS))] (Yr [Ya 8 2 1,Yl 9 1 8,Yz 4 [nS],Ys 1 4 9] (Yr [oO 5 (.mov (.const nS))] (.block 0 (.loop (.block 1 (Yr [Ya 10 1 1,Yk 11 10,Yl 12 1 4,Yc 13 43 [k11,
 k12],Yz 6 [nS],Ys 1 6 13] (Yr [Ya 14 3 1,Yk 15 14,oO 16 (.mkfn 153 [k4,k6]),Yc 17 152 [k15,k16],oM 7 17] (sQ (Yr [oM 18 7,Yo 19 .lss k18 q0] (.cond k19 (Yr [Yl 20 1 4,oM 21 5,Ys 1 2 20,oM 3 21] .ret) .skip)) (.draw [Yd 0 (Yl 22 1 4) 0 0,
 Yd 1 (Ya 23 3 1) 0 0,Yd 2 (Yk 24 23) 2 0,Yd 3 (oM 25 7) 0 0,Yd 4 (Yi 26 5 24 25) 14 0,Yd 5 (Ya 27 3 26) 30 0,Yd 6 (Yk 28 27) 62 0,Yd 7 (Yc 29 101 [k22,k28]) 127 1,Yd 8 (oM 30 5) 0 0,Yd 9 (oM 31 7) 0 0,
 Yd 10 (oO 32 (.bslice [z0] 1 [(0,k31)])) 512 0,Yd 11 (oO 33 (.append [z0] 8 k30 k32)) 2047 1,Yd 12 (Ys 1 4 29) 4095 1,Yd 13 (oM 5 33) 8191 1]))))))))))
theorem ok124:Y4 124 34 ir124 [.cell 2 true 1,.tmp 3]:=Yf Tryz.func124 Tryz.ntmps124
def ir125:X6:=(Yr [Yb 2 0,Yb 3 1,Yz 4 [nS]] (Yr [Ya 7 0 2,Yk 8 7,Yn 9 8,oO 10 (.mslice [Y5] 8 k9 k9),oM 5 10] (sQ (Yr [oM 11 5,Yn 12 11,Yj 13 q0] (.block 0 (.loop (Yr [Yo 14 .lss k13 k12] (sQ (.cond k14 .skip (.exit 0)) (sQ (.block 1 (Yr [oM 15 13,
 oM 6 15] (.draw [Yd 0 (oM 16 5) 0 0,Yd 1 (oM 17 6) 0 0,Yd 2 (Ya 18 0 2) 0 0,Yd 3 (Yk 19 18) 4 0,Yd 4 (oM 20 6) 0 0,Yd 5 (Yi 21 1 19 20) 28 0,Yd 6 (Yk 22 21) 60 0,Yd 7 (Yl 23 1 3) 0 0,Yd 8 (oM 24 6) 0 0,
 Yd 9 (Yc 25 63 [k23,k24]) 384 0,Yd 10 (Yo 26 .andNot k22 k25) 1020 1,Yd 11 (Yi 27 1 16 17) 2047 1,Yd 12 (Ys 1 27 26) 4095 1]))) (Yg [Yo 28 .add k13 q1,oM 13 28]))))))) (Yr [oM 29 5,Yc 30 40 [k29],Ys 1 4 30] .ret))))
theorem ok125:Y4 125 31 ir125 [.cell 4 true 1]:=Yf Tryz.func125 Tryz.ntmps125
def ir126:X6:=(Yr [Yb 1 0,oO 2 (.mov (.const nP)),Yj 3 q0] (Yr [Yl 17 6 1,Yc 18 154 [k17],oM 16 18,Yx 19 16 0,Yx 20 16 1,oM 4 19,oM 5 20] (sQ (Yr [oM 21 5,Yo 22 .neq k21 q0] (.cond k22 (Yr [oM 23 5,
 oO 2 (.mov (.const nP)),oM 3 23] .ret) .skip)) (Yr [Yl 24 6 1,oM 25 4,oO 26 (.build [z0,nP,nS,nS,nS,nS,nS,nS,nS] [(0,6,k24),(6,1,k25)]),Yb 27 26,oM 6 27] (sQ (Yr [Ya 28 3 1,Yk 29 28,Yn 30 29,Yj 31 q0] (.block 0 (.loop (Yr [Yo 32 .lss k31 k30] (sQ (.cond k32 .skip (.exit 0)) (sQ (.block 1 (Yr [Yi 33 5 29 31,
 Yl 34 5 33,oO 8 (.alloc [(.bool false),nS,nS,z0,z0]),Ys 5 8 34] (Yr [Yl 36 6 1,Ya 37 1 8,Yl 38 2 37,Yc 39 155 [k36,k38],oM 35 39,Yx 40 35 0,Yx 41 35 1,oM 9 40,oM 10 41] (sQ (Yr [oM 42 10,Yo 43 .neq k42 q0] (.cond k43 (Yr [oM 44 10,
 oO 2 (.mov (.const nP)),oM 3 44] .ret) .skip)) (Yr [oO 45 (.bslice [nS,nS] 0 []),oM 46 4,oO 47 (.append [nS,nS] 48 k45 k46),oM 11 47] (sQ (Yr [oM 48 4,Yn 49 48,Yj 50 q0] (.block 2 (.loop (Yr [Yo 51 .lss k50 k49] (sQ (.cond k51 .skip (.exit 2)) (sQ (.block 3 (Yr [Yi 52 2 48 50,
 Yl 53 2 52,Yz 13 [nS,nS],Ys 2 13 53] (Yr [Yl 55 2 13,Ya 56 3 8,Yk 57 56,Ya 58 0 8,Yk 59 58,Yc 60 156 [k55,k57,k59],oM 54 60,Yx 61 54 0,Yx 62 54 1,Yz 14 [nS,nS],Ys 2 14 61,oM 15 62] (Yr [oM 63 15] (.cond k63 (Yg [oM 64 11,
 Yl 65 2 14,oO 66 (.bslice [nS,nS] 1 [(0,k65)]),oO 67 (.append [nS,nS] 48 k64 k66),oM 11 67]) .skip))))) (Yg [Yo 68 .add k50 q1,oM 50 68]))))))) (.draw [Yd 0 (oM 69 6) 0 0,Yd 1 (oM 70 6) 0 0,Yd 2 (oM 71 6) 0 0,
 Yd 3 (oO 72 (.nilck k71)) 4 0,Yd 4 (Ya 73 7 72) 12 0,Yd 5 (Yk 74 73) 28 0,Yd 6 (oM 75 9) 0 0,Yd 7 (oO 76 (.bslice [nS] 1 [(0,k75)])) 64 0,Yd 8 (oO 77 (.append [nS] 24 k74 k76)) 252 504,Yd 9 (oM 78 6) 0 0,
 Yd 10 (oO 79 (.nilck k78)) 512 0,Yd 11 (Ya 80 8 79) 1536 0,Yd 12 (Yk 81 80) 3584 0,Yd 13 (oM 82 11) 0 0,Yd 14 (oO 83 (.bslice [nS] 1 [(0,k82)])) 8192 0,Yd 15 (oO 84 (.append [nS] 24 k81 k83)) 32764 1,Yd 16 (oO 85 (.nilck k69)) 65533 1,
 Yd 17 (Ya 86 7 85) 131069 1,Yd 18 (Ys 1 86 77) 262141 1,Yd 19 (oO 87 (.nilck k70)) 524287 1,Yd 20 (Ya 88 8 87) 1048575 1,Yd 21 (Ys 1 88 84) 2097151 1]))))))) (Yg [Yo 89 .add k31 q1,oM 31 89]))))))) (Yr [oM 90 6,
 oM 2 90,Yj 3 q0] .ret))))))
theorem ok126:Y4 126 91 ir126 [.tmp 2,.tmp 3]:=Yf Tryz.func126 Tryz.ntmps126
def ok127 := Xm Tryz.func127 Tryz.ntmps127
def ir128:X6:=(Yr [Yb 4 1,Yb 5 2,Yj 6 q0] (sQ (sQ (.draw [Yd 0 (Yl 7 2 4) 0 0,Yd 1 (oM 8 0) 0 0,Yd 2 (oO 9 (.nilck k8)) 2 0,Yd 3 (Ya 10 0 9) 6 0,Yd 4 (Yk 11 10) 14 0,Yd 5 (Yc 12 160 [k7,k11]) 31 1]) (.cond k12 (Yr [Yj 6 q0] .ret) .skip)) (sQ (.draw [Yd 0 (oM 13 0) 0 0,
 Yd 1 (oM 14 0) 0 0,Yd 2 (oM 15 0) 0 0,Yd 3 (oO 16 (.nilck k15)) 4 0,Yd 4 (Ya 17 0 16) 12 0,Yd 5 (Yk 18 17) 28 0,Yd 6 (Yl 19 2 4) 0 0,Yd 7 (oO 20 (.bslice [nS,nS] 1 [(0,k19)])) 64 0,Yd 8 (oO 21 (.append [nS,
 nS] 48 k18 k20)) 252 504,Yd 9 (oM 22 0) 0 0,Yd 10 (oO 23 (.nilck k22)) 512 0,Yd 11 (Ya 24 1 23) 1536 0,Yd 12 (Yk 25 24) 3584 0,Yd 13 (Yl 26 2 5) 0 0,Yd 14 (oO 27 (.bslice [z0,z0] 1 [(0,k26)])) 8192 0,Yd 15 (oO 28 (.append [z0,
 z0] 16 k25 k27)) 32764 1,Yd 16 (oO 29 (.nilck k13)) 65533 1,Yd 17 (Ya 30 0 29) 131069 1,Yd 18 (Ys 1 30 21) 262141 1,Yd 19 (oO 31 (.nilck k14)) 524287 1,Yd 20 (Ya 32 1 31) 1048575 1,Yd 21 (Ys 1 32 28) 2097151 1]) (sQ (sQ (.draw [Yd 0 (oM 33 0) 0 0,
 Yd 1 (oO 34 (.nilck k33)) 1 0,Yd 2 (Ya 35 0 34) 3 0,Yd 3 (Yk 36 35) 7 0,Yd 4 (Yn 37 36) 15 0,Yd 5 (oM 38 0) 0 0,Yd 6 (oO 39 (.nilck k38)) 32 0,Yd 7 (Ya 40 2 39) 96 0,Yd 8 (Yk 41 40) 224 0,Yd 9 (Yo 42 .gtr k37 k41) 511 1,
 Yd 10 (oM 43 42) 1023 1,Yd 11 (oF 43 44 (.mov k0)) 2047 1,Yd 12 (oF 43 45 (.nilck k44)) 4095 1,Yd 13 (oF 43 46 (.faddr 0 k45)) 8191 1,Yd 14 (oF 43 47 (.load false 1 k46)) 16383 1,Yd 15 (oF 43 48 (.len k47)) 32767 1,
 Yd 16 (oF 43 49 (.bin .gtr .num k48 (kI 2000))) 65535 1,Yd 17 (Yq 50 43 49) 131071 1]) (.cond k50 (Yr [Yj 6 q3] .ret) .skip)) (Yr [Yj 6 q0] .ret)))))
theorem ok128:Y4 128 51 ir128 [.tmp 6]:=Yf Tryz.func128 Tryz.ntmps128
def ok129 := Xm Tryz.func129 Tryz.ntmps129
def ok130 := Xm Tryz.func130 Tryz.ntmps130
def ir131:X6:=(Yr [Yb 2 0,oO 4 (.alloc [z0,(.bool false),nS]),Yj 5 q0] (Yr [Yl 16 6 2,oM 17 1,Yc 18 162 [k16,k17],oM 15 18,Yx 19 15 0,Yx 20 15 1,oM 6 19,oM 7 20] (sQ (Yr [oM 21 7,Yo 22 .neq k21 q0] (.cond k22 (Yr [oO 23 (.build [z0,
 (.bool false),nS] []),oM 24 7,Ys 3 4 23,oM 5 24] .ret) .skip)) (Yr [Yj 8 q0] (.block 0 (.loop (.block 1 (Yr [oO 9 (.mov (.const nS))] (Yr [Yj 10 kF] (sQ (Yr [oM 25 8,oM 11 25] (.block 2 (.loop (sQ (Yr [oM 26 11,
 oM 27 6,oO 28 (.nilck k27),Ya 29 7 28,Yk 30 29,Yn 31 30,Yo 32 .lss k26 k31] (.cond k32 .skip (.exit 2))) (sQ (.block 3 (sQ (sQ (.draw [Yd 0 (Yl 35 6 2) 0 0,Yd 1 (oM 36 6) 0 0,Yd 2 (oO 37 (.nilck k36)) 2 0,
 Yd 3 (Ya 38 7 37) 6 0,Yd 4 (Yk 39 38) 14 0,Yd 5 (oM 40 11) 0 0,Yd 6 (Yi 41 3 39 40) 62 0,Yd 7 (Ya 42 0 41) 126 0,Yd 8 (Yl 43 1 42) 254 0,Yd 9 (Yc 44 15 [k35,k43]) 511 1,Yd 10 (Yh 45 44) 1023 1]) (.cond k45 (.exit 3) .skip)) (Yr [oM 46 6,
 oM 47 11,Yc 48 163 [k46,k47],oM 12 48] (Yr [oM 49 10,Yh 50 49,oM 51 50,oF 51 52 (.mov k12),oF 51 53 (.mov k9),oF 51 54 (kC 164 [k52,k53]),oF 51 55 (.bin .lss .num k54 q0),Yq 56 51 55] (.cond k56 (Yg [oM 57 12,
 oM 9 57,Yj 10 kT]) .skip))))) (Yg [oM 33 11,Yo 34 .add k33 q1,oM 11 34])))))) (sQ (Yr [oM 58 10] (.cond k58 (Yr [oM 59 6,oO 60 (.nilck k59),Ya 61 7 60,Yk 62 61,Yn 63 62,oM 64 9,oO 65 (.build [z0,(.bool false),
 nS] [(0,1,k63),(1,1,kT),(2,1,k64)]),Ys 3 4 65,Yj 5 q0] .ret) .skip)) (Yr [oM 66 6,oO 67 (.nilck k66),Ya 68 7 67,Yk 69 68,Yn 70 69,oM 8 70] (Yr [oM 72 6,Yc 73 165 [k72],oM 71 73,Yx 74 71 0,Yx 75 71 1,oM 13 74,
 oM 14 75] (sQ (Yr [oM 76 14,Yo 77 .neq k76 q0] (.cond k77 (Yr [oO 78 (.build [z0,(.bool false),nS] []),oM 79 14,Ys 3 4 78,oM 5 79] .ret) .skip)) (Yr [oM 80 13,Yh 81 80] (.cond k81 (Yr [oM 82 6,oO 83 (.nilck k82),
 Ya 84 7 83,Yk 85 84,Yn 86 85,oO 87 (.build [z0,(.bool false),nS] [(0,1,k86)]),Ys 3 4 87,Yj 5 q0] .ret) .skip))))))))))))))))
theorem ok131:Y4 131 88 ir131 [.cell 4 true 3,.tmp 5]:=Yf Tryz.func131 Tryz.ntmps131
def ok132 := Xm Tryz.func132 Tryz.ntmps132
def ok133 := Xm Tryz.func133 Tryz.ntmps133
def ok134 := Xm Tryz.func134 Tryz.ntmps134
def ok135 := Xm Tryz.func135 Tryz.ntmps135
def ok136 := Xm Tryz.func136 Tryz.ntmps136
def ok137 := Xm Tryz.func137 Tryz.ntmps137
def ok138 := Xm Tryz.func138 Tryz.ntmps138
def ok139 := Xm Tryz.func139 Tryz.ntmps139
def ok140 := Xm Tryz.func140 Tryz.ntmps140
def ok141 := Xm Tryz.func141 Tryz.ntmps141
def ok144 := Xm Tryz.func144 Tryz.ntmps144
def ok145 := Xm Tryz.func145 Tryz.ntmps145
def ok146 := Xm Tryz.func146 Tryz.ntmps146
def ok147 := Xm Tryz.func147 Tryz.ntmps147
def ok148 := Xm Tryz.func148 Tryz.ntmps148
def ok149 := Xm Tryz.func149 Tryz.ntmps149
def ok150 := Xm Tryz.func150 Tryz.ntmps150
def ok151 := Xm Tryz.func151 Tryz.ntmps151
def ok152 := Xm Tryz.func152 Tryz.ntmps152
def ok153 := Xm Tryz.func153 Tryz.ntmps153
def ok154 := Xm Tryz.func154 Tryz.ntmps154
def ir155:X6:=(Yr [Yb 2 0,Yb 3 1,Yz 4 [nS],Yz 5 [z0]] (sQ (Yr [Ya 15 1 2,Yk 16 15,oO 17 (.bin .eql .ptr k16 (.const nP))] (.cond k17 (Yr [⟨none,.store 1 k4 (.const nS),none⟩,⟨none,.store 1 k5 q1,none⟩] .ret) .skip)) (Yr [Ya 18 0 2,
 Yk 19 18,Yo 20 .add k19 q1,Yc 21 85 [k20],Yc 22 86 [k21,q0],Yz 6 [nS],Ys 1 6 22] (sQ (sQ (.draw [Yd 0 (Ya 23 0 3) 0 0,Yd 1 (Yl 24 1 23) 1 0,Yd 2 (Ya 25 1 3) 0 0,Yd 3 (Yl 26 1 25) 4 0,Yd 4 (Yc 27 59 [k24,
 k26]) 15 0,Yd 5 (Yl 28 1 6) 0 0,Yd 6 (Yc 29 87 [k27,k28]) 63 1,Yd 7 (Yh 30 29) 127 1]) (.cond k30 (Yr [⟨none,.store 1 k4 (.const nS),none⟩,⟨none,.store 1 k5 q4,none⟩] .ret) .skip)) (Yr [Yz 7 [nS]] (sQ (Yr [Ya 31 1 3,
 Yl 32 1 31,Yc 33 64 [k32]] (.block 0 (.range k33 [34] [(8,k34)] (.block 1 (.draw [Yd 0 (Yl 35 1 7) 0 0,Yd 1 (Ya 36 1 2) 0 0,Yd 2 (Yk 37 36) 2 0,Yd 3 (oM 38 8) 0 0,Yd 4 (Yc 39 65 [k37,k38]) 14 0,Yd 5 (Yl 40 1 6) 0 0,
 Yd 6 (Yc 41 21 [k39,k40]) 62 0,Yd 7 (Yc 42 59 [k35,k41]) 127 1,Yd 8 (Ys 1 7 42) 255 1]))))) (Yr [Yl 43 1 7,oO 44 (.build [nS,nS] [(1,1,k43)]),oO 45 (.bslice [nS,nS] 1 [(0,k44)]),Yz 9 [nS],Ys 1 9 45] (sQ (Yr [Ya 46 0 3,
 Yl 47 1 46,Yc 48 64 [k47]] (.block 2 (.range k48 [49] [(10,k49)] (.block 3 (Yr [Yz 11 [nS]] (sQ (Yr [Yk 50 9,Yn 51 50,Yj 52 q0] (.block 4 (.loop (Yr [Yo 53 .lss k52 k51] (sQ (.cond k53 .skip (.exit 4)) (sQ (.block 5 (Yr [Yi 54 2 50 52,
 Yl 55 2 54,Yz 13 [nS,nS],Ys 2 13 55] (sQ (.draw [Yd 0 (Ya 56 1 2) 0 0,Yd 1 (Yk 57 56) 1 0,Yd 2 (oM 58 10) 0 0,Yd 3 (Yc 59 65 [k57,k58]) 7 0,Yd 4 (Yl 60 1 6) 0 0,Yd 5 (Yc 61 21 [k59,k60]) 31 1,Yd 6 (Yc 62 64 [k61]) 63 1]) (.block 6 (.range k62 [63] [(14,
 k63)] (.block 7 (.draw [Yd 0 (Yk 64 11) 0 0,Yd 1 (Ya 65 0 13) 0 0,Yd 2 (Yl 66 1 65) 2 0,Yd 3 (oM 67 14) 0 0,Yd 4 (Yc 68 101 [k66,k67]) 14 0,Yd 5 (Ya 69 1 13) 0 0,Yd 6 (Yl 70 1 69) 32 0,Yd 7 (oO 71 (.build [nS,
 nS] [(0,1,k68),(1,1,k70)])) 126 0,Yd 8 (oO 72 (.bslice [nS,nS] 1 [(0,k71)])) 254 0,Yd 9 (oO 73 (.append [nS,nS] 48 k64 k72)) 511 1,Yd 10 (Ys 1 11 73) 1023 1]))))))) (Yg [Yo 74 .add k52 q1,oM 52 74]))))))) (Yr [Yk 75 11,
 Yc 76 188 [k75],Ys 1 9 76] (Yr [Yk 77 9,Yn 78 77,Yo 79 .gtr k78 (kI 2000)] (.cond k79 (Yr [⟨none,.store 1 k4 (.const nS),none⟩,⟨none,.store 1 k5 q3,none⟩] .ret) .skip))))))))) (Yr [Yk 80 9,Ys 1 4 80,⟨none,
 .store 1 k5 q0,none⟩] .ret)))))))))
theorem ok155:Y4 155 81 ir155 [.cell 4 false 1,.cell 5 false 1]:=Yf Tryz.func155 Tryz.ntmps155
def ir156:X6:=(Yr [Yb 3 0,Yz 6 [nS,nS],Yj 7 kF] (sQ (Yr [oM 8 2] (.cond k8 (sQ (.draw [Yd 0 (Ya 9 0 3) 0 0,Yd 1 (Yl 10 1 9) 1 0,Yd 2 (Ya 11 1 3) 0 0,Yd 3 (Yl 12 1 11) 4 0,Yd 4 (oM 13 1) 0 0,Yd 5 (Yc 14 86 [k12,
 k13]) 28 0,Yd 6 (oO 15 (.build [nS,nS] [(0,1,k10),(1,1,k14)])) 63 0,Yd 7 (Ya 16 0 3) 0 0,Yd 8 (Yl 17 1 16) 128 0,Yd 9 (oM 18 1) 0 0,Yd 10 (Yc 19 22 [k17,k18]) 956 0,Yd 11 (Yh 20 19) 1980 0,Yd 12 (Ys 2 6 15) 2047 1,
 Yd 13 (oM 7 20) 8191 1]) .ret) .skip)) (sQ (.draw [Yd 0 (Ya 21 0 3) 0 0,Yd 1 (Yl 22 1 21) 1 0,Yd 2 (oM 23 1) 0 0,Yd 3 (Yc 24 86 [k22,k23]) 7 0,Yd 4 (Ya 25 1 3) 0 0,Yd 5 (Yl 26 1 25) 16 0,Yd 6 (oO 27 (.build [nS,
 nS] [(0,1,k24),(1,1,k26)])) 63 0,Yd 7 (Ya 28 1 3) 0 0,Yd 8 (Yl 29 1 28) 128 0,Yd 9 (oM 30 1) 0 0,Yd 10 (Yc 31 22 [k29,k30]) 911 0,Yd 11 (Yh 32 31) 1935 0,Yd 12 (Ys 2 6 27) 2047 1,Yd 13 (oM 7 32) 8191 1]) .ret)))
theorem ok156:Y4 156 33 ir156 [.cell 6 true 2,.tmp 7]:=Yf Tryz.func156 Tryz.ntmps156
def ok157 := Xm Tryz.func157 Tryz.ntmps157
def ok158 := Xm Tryz.func158 Tryz.ntmps158
def ok159 := Xm Tryz.func159 Tryz.ntmps159
def ir160:X6:=(Yr [Yb 2 0,Yj 4 kF] (sQ (Yr [Yl 7 2 2,Yc 8 56 [k7]] (.cond k8 (Yr [Yj 4 kT] .ret) .skip)) (sQ (.block 0 (.loop (sQ (sQ (.draw [Yd 0 (oM 9 1) 0 1,Yd 1 (Yn 10 9) 1 1,Yd 2 (Yo 11 .gtr k10 q0) 3 1,
 Yd 3 (oM 12 11) 7 1,Yd 4 (oT 12 13 (.load true 2 k2)) 15 0,Yd 5 (oT 12 14 (.mov k1)) 15 0,Yd 6 (oT 12 15 (.iaddr 2 k14 q0)) 47 0,Yd 7 (oT 12 16 (.load true 2 k15)) 111 0,Yd 8 (oT 12 17 (kC 189 [k13,k16])) 255 1,
 Yd 9 (oT 12 18 (kC 56 [k17])) 511 1,Yd 10 (Ym 19 12 18) 1023 1]) (.cond k19 .skip (.exit 0))) (.block 1 (Yg [oM 20 1,oO 21 (.slc 2 k20 (some q1) none none),oM 1 21]))))) (sQ (Yr [oM 22 1,Yn 23 22,Yo 24 .eql k23 q0] (.cond k24 (Yr [Yj 4 kF] .ret) .skip)) (sQ (sQ (.draw [Yd 0 (Yl 25 2 2) 0 0,
 Yd 1 (oM 26 1) 0 0,Yd 2 (oO 27 (.iaddr 2 k26 q0)) 2 0,Yd 3 (Yl 28 2 27) 6 0,Yd 4 (Yc 29 169 [k25,k28]) 15 1,Yd 5 (Yn 30 29) 31 1,Yd 6 (Yj 31 q0) 0 0]) (.block 2 (.loop (Yr [Yo 32 .lss k31 k30] (sQ (.cond k32 .skip (.exit 2)) (sQ (.block 3 (Yr [Yi 33 2 29 31,
 Yl 34 2 33,Yz 6 [nS,nS],Ys 2 6 34] (sQ (.draw [Yd 0 (Yl 35 2 6) 0 0,Yd 1 (oM 36 1) 0 0,Yd 2 (oO 37 (.slc 2 k36 (some q1) none none)) 2 0,Yd 3 (Yc 38 160 [k35,k37]) 7 1,Yd 4 (Yh 39 38) 15 1]) (.cond k39 (Yr [Yj 4 kF] .ret) .skip)))) (Yg [Yo 40 .add k31 q1,
 oM 31 40]))))))) (Yr [Yj 4 kT] .ret))))))
theorem ok160:Y4 160 41 ir160 [.tmp 4]:=Yf Tryz.func160 Tryz.ntmps160
def ok161 := Xm Tryz.func161 Tryz.ntmps161
def ok162 := Xm Tryz.func162 Tryz.ntmps162
def ok163 := Xm Tryz.func163 Tryz.ntmps163
def ok164 := Xm Tryz.func164 Tryz.ntmps164
def ir165:X6:=(Yr [Yj 2 kF,Yj 3 q0] (Yr [Yj 4 q0] (sQ (Yr [oM 10 0,oO 11 (.nilck k10),Ya 12 9 11,Yk 13 12,Yn 14 13,oM 5 14] (Yr [oM 15 5,Yo 16 .gtr k15 q1] (.cond k16 (Yg [oM 17 0,oO 18 (.nilck k17),
 Ya 19 9 18,Yk 20 19,oM 21 5,Yo 22 .sub k21 q2,Yi 23 1 20 22,Yk 24 23,oM 4 24]) .skip))) (sQ (Yr [oM 25 4,oM 6 25] (.block 0 (.loop (sQ (sQ (.draw [Yd 0 (oM 26 6) 0 0,Yd 1 (oM 27 0) 0 0,Yd 2 (oO 28 (.nilck k27)) 2 0,
 Yd 3 (Ya 29 9 28) 6 0,Yd 4 (Yk 30 29) 14 0,Yd 5 (oM 31 0) 0 0,Yd 6 (oO 32 (.nilck k31)) 32 0,Yd 7 (Ya 33 9 32) 96 0,Yd 8 (Yk 34 33) 224 0,Yd 9 (Yn 35 34) 480 0,Yd 10 (Yo 36 .sub k35 q1) 992 0,Yd 11 (Yi 37 1 30 36) 2046 1,
 Yd 12 (Yk 38 37) 4094 1,Yd 13 (Yo 39 .lss k26 k38) 8191 1]) (.cond k39 .skip (.exit 0))) (sQ (.block 1 (Yr [oM 42 0,oO 43 (.nilck k42),Ya 44 0 43,Ya 45 3 44,Yk 46 45,Yn 47 46,Yj 48 q0] (.block 2 (.loop (Yr [Yo 49 .lss k48 k47] (sQ (.cond k49 .skip (.exit 2)) (sQ (.block 3 (Yr [oM 50 48,
 oM 7 50] (sQ (.draw [Yd 0 (oM 52 0) 0 0,Yd 1 (oO 53 (.nilck k52)) 1 0,Yd 2 (Ya 54 0 53) 3 0,Yd 3 (Yl 55 6 54) 7 0,Yd 4 (oM 56 0) 0 0,Yd 5 (oO 57 (.nilck k56)) 16 0,Yd 6 (Ya 58 7 57) 48 0,Yd 7 (Yk 59 58) 112 0,
 Yd 8 (oM 60 6) 0 0,Yd 9 (Yi 61 3 59 60) 496 0,Yd 10 (Ya 62 0 61) 1008 0,Yd 11 (Yl 63 1 62) 2032 0,Yd 12 (oM 64 7) 0 0,Yd 13 (Yc 65 41 [k55,k63,k64]) 8191 1,Yd 14 (oM 51 65) 16383 1,Yd 15 (Yx 66 51 0) 32767 1,
 Yd 16 (Yx 67 51 1) 32767 0,Yd 17 (Yz 8 [nS]) 0 0,Yd 18 (Ys 1 8 66) 196607 1,Yd 19 (oM 9 67) 524287 1]) (sQ (sQ (.draw [Yd 0 (oM 68 9) 0 1,Yd 1 (Yh 69 68) 1 1,Yd 2 (oM 70 69) 3 1,Yd 3 (oF 70 71 (.mov k0)) 7 0,
 Yd 4 (oF 70 72 (.nilck k71)) 15 0,Yd 5 (oF 70 73 (.faddr 8 k72)) 31 0,Yd 6 (oF 70 74 (.load false 1 k73)) 63 0,Yd 7 (oF 70 75 (.load true 1 k8)) 7 0,Yd 8 (oF 70 76 (kC 137 [k75])) 135 0,Yd 9 (oF 70 77 (.b2s k76)) 391 0,
 Yd 10 (oF 70 78 (.lookup (.one 2) false [(.bool false)] false k74 k77)) 1023 1,Yd 11 (Yq 79 70 78) 2047 1]) (.cond k79 (.exit 3) .skip)) (sQ (.draw [Yd 0 (oM 80 0) 0 0,Yd 1 (oO 81 (.nilck k80)) 1 0,Yd 2 (Ya 82 8 81) 3 0,
 Yd 3 (Yk 83 82) 7 0,Yd 4 (Yl 84 1 8) 0 0,Yd 5 (Yc 85 137 [k84]) 16 0,Yd 6 (oO 86 (.b2s k85)) 48 0,Yd 7 (⟨none,.mapset (.one 2) k83 k86 kT,none⟩) 127 1]) (sQ (.draw [Yd 0 (oM 87 0) 0 0,Yd 1 (oM 88 0) 0 0,
 Yd 2 (oO 89 (.nilck k88)) 2 0,Yd 3 (Ya 90 7 89) 6 0,Yd 4 (Yk 91 90) 14 0,Yd 5 (Yl 92 1 8) 0 0,Yd 6 (oM 93 6) 0 0,Yd 7 (oM 94 7) 0 0,Yd 8 (oO 95 (.build [nS,z0,z0] [(0,1,k92),(1,1,k93),(2,1,k94)])) 224 0,
 Yd 9 (oO 96 (.bslice [nS,z0,z0] 1 [(0,k95)])) 480 0,Yd 10 (oO 97 (.append [nS,z0,z0] 40 k91 k96)) 1022 1,Yd 11 (oO 98 (.nilck k87)) 2047 1,Yd 12 (Ya 99 7 98) 4095 1,Yd 13 (Ys 1 99 97) 8191 1]) (sQ (.draw [Yd 0 (oM 100 0) 0 0,
 Yd 1 (oO 101 (.nilck X8P)) 1 0,Yd 2 (Ya 102 7 101) 3 0,Yd 3 (Yk 103 102) 7 0,Yd 4 (Yn 104 103) 15 0,Yd 5 (oM 105 0) 0 0,Yd 6 (oO 106 (.nilck X84)) 32 0,Yd 7 (Ya 107 6 106) 96 0,Yd 8 (Yk 108 107) 224 0,
 Yd 9 (Yo 109 .gtr X6O X7G) 511 1]) (.cond X7n (Yr [Yj 2 kF,Yj 3 q3] .ret) .skip)))))))) (Yg [Yo 110 .add k48 q1,oM 48 110])))))))) (Yg [oM 40 6,Yo 41 .add k40 q1,oM 6 41])))))) (sQ (sQ (.draw [Yd 0 (oM 111 0) 0 0,
 Yd 1 (oO 112 (.nilck X7V)) 1 0,Yd 2 (Ya 113 7 112) 3 0,Yd 3 (Yk 114 113) 7 0,Yd 4 (Yn 115 114) 15 0,Yd 5 (oM 116 0) 0 0,Yd 6 (oO 117 (.nilck X7b)) 32 0,Yd 7 (Ya 118 9 117) 96 0,Yd 8 (Yk 119 118) 224 0,
 Yd 9 (oM 120 0) 0 0,Yd 10 (oO 121 (.nilck X75)) 512 0,Yd 11 (Ya 122 9 121) 1536 0,Yd 12 (Yk 123 122) 3584 0,Yd 13 (Yn 124 123) 7680 0,Yd 14 (Yo 125 .sub X7W q1) 15872 0,Yd 15 (Yi 126 1 119 125) 32736 0,
 Yd 16 (Yk 127 126) 65504 0,Yd 17 (Yo 128 .eql X72 X7z) 131071 1]) (.cond X77 (Yr [Yj 2 kF,Yj 3 q0] .ret) .skip)) (sQ (.draw [Yd 0 (oM 129 0) 0 0,Yd 1 (oM 130 0) 0 0,Yd 2 (oO 131 (.nilck X7g)) 2 0,Yd 3 (Ya 132 9 131) 6 0,
 Yd 4 (Yk 133 132) 14 0,Yd 5 (oM 134 0) 0 0,Yd 6 (oO 135 (.nilck X7P)) 32 0,Yd 7 (Ya 136 7 135) 96 0,Yd 8 (Yk 137 136) 224 0,Yd 9 (Yn 138 137) 480 0,Yd 10 (oO 139 (.bslice [z0] 1 [(0,X74)])) 992 0,Yd 11 (oO 140 (.append [z0] 8 X7x X7l)) 2046 1,
 Yd 12 (oO 141 (.nilck X7v)) 4095 1,Yd 13 (Ya 142 9 141) 8191 1,Yd 14 (Ys 1 142 140) 16383 1]) (Yr [Yj 2 kT,Yj 3 q0] .ret)))))))
theorem ok165:Y4 165 143 ir165 [.tmp 2,.tmp 3]:=Yf Tryz.func165 Tryz.ntmps165
def ok166 := Xm Tryz.func166 Tryz.ntmps166
def ir168:X6:=(Yr [Yb 2 0,Yb 3 1,Yj 4 q0] (sQ (Yr [Ya 8 0 2,Yk 9 8,Yn 10 9,Ya 11 0 3,Yk 12 11,Yn 13 12,oO 14 (.mx k10 k13),Yj 15 q0] (.block 0 (.loop (Yr [Yo 16 .lss k15 k14] (sQ (.cond k16 .skip (.exit 0)) (sQ (.block 1 (Yr [oM 17 15,
 oM 5 17] (sQ (.draw [Yd 0 (Yl 18 1 2) 0 0,Yd 1 (oM 19 5) 0 0,Yd 2 (Yc 20 63 [k18,k19]) 3 0,Yd 3 (Yl 21 1 3) 0 0,Yd 4 (oM 22 5) 0 0,Yd 5 (Yc 23 63 [k21,k22]) 31 1,Yd 6 (Yo 24 .xor k20 k23) 63 1,Yd 7 (oM 6 24) 127 1]) (sQ (Yr [oM 25 6,
 Yo 26 .eql k25 (kW 0)] (.cond k26 (.exit 1) .skip)) (Yr [oM 27 5,Yo 28 .mul q64 k27,oM 29 6,Yc 30 122 [k29],Yo 31 .add k28 k30,oM 7 31] (sQ (sQ (.draw [Yd 0 (Yl 32 1 2) 0 0,Yd 1 (oM 33 7) 0 0,Yd 2 (Yc 34 22 [k32,
 k33]) 3 0,Yd 3 (Yl 35 1 3) 0 0,Yd 4 (oM 36 7) 0 0,Yd 5 (Yc 37 22 [k35,k36]) 31 1,Yd 6 (oO 38 (.bin .eql .bool k34 k37)) 63 1]) (.cond k38 (Yr [Yj 4 q0] .ret) .skip)) (sQ (Yr [Yl 39 1 2,oM 40 7,Yc 41 22 [k39,
 k40],oM 42 41,oT 42 43 (.load true 1 k3),oT 42 44 (.mov k7),oT 42 45 (kC 194 [k43,k44]),Ym 46 42 45,oM 47 46,oF 47 48 (.load true 1 k3),oF 47 49 (.mov k7),oF 47 50 (kC 22 [k48,k49]),oF 47 51 (.mov k50),
 oT 51 52 (.load true 1 k2),oT 51 53 (.mov k7),oT 51 54 (kC 194 [k52,k53]),oT 51 55 (.una .not k54),oF 47 56 (.pick k51 k55 kF),Yq 57 47 56] (.cond k57 (Yr [oO 4 (.mov (.const (.int .i64 (-1))))] .ret) .skip)) (Yr [Yj 4 q1] .ret)))))))) (Yg [Yo 58 .add k15 q1,
 oM 15 58]))))))) (Yr [Yj 4 q0] .ret)))
theorem ok168:Y4 168 59 ir168 [.tmp 4]:=Yf Tryz.func168 Tryz.ntmps168
def ir169:X6:=(Yr [Yb 2 0,Yb 3 1,oO 4 (.mov (.const nS))] (sQ (Yr [Yl 9 2 2,Yc 10 56 [k9]] (.cond k10 (Yr [oO 4 (.mov (.const nS))] .ret) .skip)) (sQ (Yr [Yl 12 2 2,Yl 13 2 3,Yc 14 190 [k12,k13],oM 11 14,
 Yx 15 11 0,Yx 16 11 1,Yz 5 [nS,nS],Ys 2 5 15,oM 6 16] (Yr [oM 17 6,Yh 18 17] (.cond k18 (Yr [Yl 19 2 2,oO 20 (.bslice [nS,nS] 1 [(0,k19)]),oM 4 20] .ret) .skip))) (Yr [Yz 7 [nS]] (sQ (Yr [Ya 21 0 3,Yl 22 1 21,
 Ya 23 1 3,Yl 24 1 23,Yc 25 59 [k22,k24],Yc 26 64 [k25]] (.block 0 (.range k26 [27] [(8,k27)] (.block 1 (.block 2 (Yr [Ya 29 0 3,Yl 30 1 29,oM 31 8,Yc 32 22 [k30,k31],oM 33 32,oT 33 34 (.faddr 0 k2),oT 33 35 (.load true 1 k34),
 oT 33 36 (.mov k8),oT 33 37 (kC 22 [k35,k36]),oT 33 38 (.una .not k37),Ym 39 33 38,oM 28 39] (.cond k28 (sQ (.draw [Yd 0 (Yk 40 7) 0 0,Yd 1 (Ya 41 0 2) 0 0,Yd 2 (Yl 42 1 41) 2 0,Yd 3 (Ya 43 1 2) 0 0,Yd 4 (Yl 44 1 43) 8 0,
 Yd 5 (oM 45 8) 0 0,Yd 6 (Yc 46 101 [k44,k45]) 56 0,Yd 7 (oO 47 (.build [nS,nS] [(0,1,k42),(1,1,k46)])) 126 0,Yd 8 (oO 48 (.bslice [nS,nS] 1 [(0,k47)])) 254 0,Yd 9 (oO 49 (.append [nS,nS] 48 k40 k48)) 511 1,
 Yd 10 (Ys 1 7 49) 1023 1]) (Yg [Ya 50 0 2,Yl 51 1 50,oM 52 8,Yc 53 101 [k51,k52],Ya 54 0 2,Ys 1 54 53])) (Yr [Ya 56 1 3,Yl 57 1 56,oM 58 8,Yc 59 22 [k57,k58],oM 60 59,oT 60 61 (.faddr 1 k2),oT 60 62 (.load true 1 k61),
 oT 60 63 (.mov k8),oT 60 64 (kC 22 [k62,k63]),oT 60 65 (.una .not k64),Ym 66 60 65,oM 55 66] (.cond k55 (sQ (.draw [Yd 0 (Yk 67 7) 0 0,Yd 1 (Ya 68 0 2) 0 0,Yd 2 (Yl 69 1 68) 2 0,Yd 3 (oM 70 8) 0 0,Yd 4 (Yc 71 101 [k69,
 k70]) 14 0,Yd 5 (Ya 72 1 2) 0 0,Yd 6 (Yl 73 1 72) 32 0,Yd 7 (oO 74 (.build [nS,nS] [(0,1,k71),(1,1,k73)])) 126 0,Yd 8 (oO 75 (.bslice [nS,nS] 1 [(0,k74)])) 254 0,Yd 9 (oO 76 (.append [nS,nS] 48 k67 k75)) 511 1,
 Yd 10 (Ys 1 7 76) 1023 1]) (Yg [Ya 77 1 2,Yl 78 1 77,oM 79 8,Yc 80 101 [k78,k79],Ya 81 1 2,Ys 1 81 80])) .skip))))))))) (Yr [Yk 82 7,oM 4 82] .ret))))))
theorem ok169:Y4 169 83 ir169 [.tmp 4]:=Yf Tryz.func169 Tryz.ntmps169
def ir170:X6:=(Yr [oM 4 0,Yn 5 4,Yo 6 .sub k5 q1,Yj 2 q0,oM 3 6] (.block 0 (.loop (sQ (Yr [oM 7 2,oM 8 3,Yo 9 .lss k7 k8] (.cond k9 .skip (.exit 0))) (sQ (.block 1 (.draw [Yd 0 (oM 14 0) 0 0,Yd 1 (oM 15 2) 0 0,
 Yd 2 (oM 16 0) 0 0,Yd 3 (oM 17 3) 0 0,Yd 4 (oM 18 0) 0 0,Yd 5 (oM 19 3) 0 0,Yd 6 (Yi 20 1 18 19) 48 0,Yd 7 (Yk 21 20) 112 0,Yd 8 (oM 22 0) 0 0,Yd 9 (oM 23 2) 0 0,Yd 10 (Yi 24 1 22 23) 768 0,Yd 11 (Yk 25 24) 1792 0,
 Yd 12 (Yi 26 1 14 15) 4083 1,Yd 13 (Ys 1 26 21) 8179 1,Yd 14 (Yi 27 1 16 17) 16383 1,Yd 15 (Ys 1 27 25) 32767 1])) (Yg [oM 10 2,Yo 11 .add k10 q1,oM 12 3,Yo 13 .sub k12 q1,oM 2 11,oM 3 13]))))))
theorem ok170:Y4 170 28 ir170 []:=Yf Tryz.func170 Tryz.ntmps170
def ok171 := Xm Tryz.func171 Tryz.ntmps171
def ok172 := Xm Tryz.func172 Tryz.ntmps172
def ir173:X6:=(sQ (Yr [oM 5 0,oO 6 (.bin .eql .ptr k5 (.const nP))] (.cond k6 .ret .skip)) (Yr [oM 7 0,oO 8 (.nilck k7),Ya 9 162 8,Yk 10 9,oM 11 1,Yn 12 11,oO 13 (.conv .u64 k12),Yo 14 .add k10 k13,
 oO 15 (.nilck k7),Ya 16 162 15,Ys 1 16 14] (.block 0 (.loop (sQ (Yr [oM 17 1,Yn 18 17,Yo 19 .gtr k18 q0] (.cond k19 .skip (.exit 0))) (.block 1 (sQ (.draw [Yd 0 (oM 20 0) 0 0,Yd 1 (oO 21 (.nilck k20)) 1 0,
 Yd 2 (Ya 22 25 21) 3 0,Yd 3 (oM 23 0) 0 1,Yd 4 (oO 24 (.nilck k23)) 8 1,Yd 5 (Ya 25 161 24) 24 1,Yd 6 (Yk 26 25) 56 1,Yd 7 (oO 27 (.slcA 136 k22 (some k26) none)) 127 1,Yd 8 (oM 28 1) 0 0,Yd 9 (oO 29 (.copy 1 k27 k28)) 511 1,
 Yd 10 (oM 4 29) 1023 1]) (Yr [oM 30 1,oM 31 4,oO 32 (.slc 1 k30 (some k31) none none),oM 1 32] (Yr [oM 33 0,oO 34 (.nilck k33),Ya 35 161 34,Yk 36 35,oM 37 4,Yo 38 .add k36 k37,oO 39 (.nilck k33),Ya 40 161 39,
 Ys 1 40 38] (Yr [oM 41 0,oO 42 (.nilck k41),Ya 43 161 42,Yk 44 43,Yo 45 .eql k44 (kI 136)] (.cond k45 (sQ (.draw [Yd 0 (oM 46 0) 0 1,Yd 1 (oO 47 (.nilck k46)) 1 1,Yd 2 (Ya 48 0 47) 3 1,Yd 3 (oM 49 0) 0 1,
 Yd 4 (oO 50 (.nilck k49)) 8 1,Yd 5 (Ya 51 25 50) 24 1,Yd 6 (oO 52 (.slcA 136 k51 none none)) 56 1,Yd 7 (Yc 53 195 [k48,k52]) 127 1]) (Yg [oM 54 0,oO 55 (.nilck k54),Ya 56 161 55,⟨none,.store 1 k56 q0,none⟩])) .skip)))))))))))
theorem ok173:Y4 173 57 ir173 []:=Yf Tryz.func173 Tryz.ntmps173
def ir174:X6:=(Yr [Yz 2 Y1] (sQ (Yr [oM 7 0,oO 8 (.bin .eql .ptr k7 (.const nP))] (.cond k8 (Yr [oO 9 (.build Y1 []),Ys 32 2 9] .ret) .skip)) (Yr [oM 10 0,oO 11 (.nilck k10),Ya 12 0 11,Yl 13 25 12,oO 3 (.alloc [Y5,
 Y5,Y5,Y5,Y5,Y5,Y5,Y5,Y5,Y5,Y5,Y5,Y5,Y5,Y5,Y5,Y5,Y5,Y5,Y5,Y5,Y5,Y5,Y5,Y5]),Ys 25 3 13] (Yr [Yz 4 [Yu,Yu,Yu,Yu,Yu,Yu,Yu,Yu,Yu,Yu,Yu,Yu,Yu,Yu,Yu,Yu,Yu,Yu,Yu,Yu,Yu,Yu,Yu,Yu,Yu,Yu,Yu,Yu,Yu,Yu,Yu,Yu,Yu,Yu,Yu,
 Yu,Yu,Yu,Yu,Yu,Yu,Yu,Yu,Yu,Yu,Yu,Yu,Yu,Yu,Yu,Yu,Yu,Yu,Yu,Yu,Yu,Yu,Yu,Yu,Yu,Yu,Yu,Yu,Yu,Yu,Yu,Yu,Yu,Yu,Yu,Yu,Yu,Yu,Yu,Yu,Yu,Yu,Yu,Yu,Yu,Yu,Yu,Yu,Yu,Yu,Yu,Yu,Yu,Yu,Yu,Yu,Yu,Yu,Yu,Yu,Yu,Yu,Yu,Yu,Yu,Yu,Yu,
 Yu,Yu,Yu,Yu,Yu,Yu,Yu,Yu,Yu,Yu,Yu,Yu,Yu,Yu,Yu,Yu,Yu,Yu,Yu,Yu,Yu,Yu,Yu,Yu,Yu,Yu,Yu,Yu,Yu,Yu,Yu,Yu,Yu,Yu]] (sQ (.draw [Yd 0 (oO 14 (.slcA 136 k4 none none)) 0 0,Yd 1 (oM 15 0) 0 0,Yd 2 (oO 16 (.nilck k15)) 2 0,
 Yd 3 (Ya 17 25 16) 6 0,Yd 4 (oM 18 0) 0 1,Yd 5 (oO 19 (.nilck k18)) 16 1,Yd 6 (Ya 20 161 19) 48 1,Yd 7 (Yk 21 20) 112 1,Yd 8 (oO 22 (.slcA 136 k17 none (some k21))) 254 1,Yd 9 (oO 23 (.copy 1 k14 k22)) 511 1]) (Yr [oM 24 0,
 oO 25 (.nilck k24),Ya 26 161 25,Yk 27 26,oO 28 (.iaddrA 136 1 k4 k27),⟨none,.store 1 k28 (kB 6),none⟩] (Yr [oO 29 (.iaddrA 136 1 k4 (kI 135)),Yk 30 29,Yo 31 .xor k30 (kB 128),oO 32 (.iaddrA 136 1 k4 (kI 135)),
 Ys 1 32 31] (Yr [oO 33 (.slcA 136 k4 none none),Yc 34 195 [k3,k33]] (Yr [Yz 5 Y1] (sQ (Yr [Yj 35 q0] (.block 0 (.loop (Yr [Yo 36 .lss k35 q32] (sQ (.cond k36 .skip (.exit 0)) (sQ (.block 1 (Yr [oM 37 35,
 oM 6 37] (Yg [oM 38 6,oM 39 6,Yo 40 .quo k39 q8,oO 41 (.iaddrA 25 1 k3 k40),Yk 42 41,oM 43 6,Yo 44 .rem k43 q8,Yo 45 .mul q8 k44,Yo 46 .shr k42 k45,oO 47 (.conv .u8 k46),oO 48 (.iaddrA 32 1 k5 k38),Ys 1 48 47]))) (Yg [Yo 49 .add k35 q1,
 oM 35 49]))))))) (Yr [Yl 50 32 5,Ys 32 2 50] .ret)))))))))))
theorem ok174:Y4 174 51 ir174 [.cell 2 true 32]:=Yf Tryz.func174 Tryz.ntmps174
set_option maxRecDepth 100000
def ir184:X6:=(Yr [Yj 2 q0] (sQ (Yr [oM 3 0,Yo 4 .geq k3 (kW 4294967296)] (.cond k4 (Yr [oM 5 0,Yo 6 .shr k5 (kW 32),oM 0 6] (Yg [Yj 2 q32])) .skip)) (sQ (Yr [oM 7 0,Yo 8 .geq k7 (kW 65536)] (.cond k8 (Yr [oM 9 0,
 Yo 10 .shr k9 (kW 16),oM 0 10] (Yg [oM 11 2,Yo 12 .add k11 q16,oM 2 12])) .skip)) (sQ (Yr [oM 13 0,Yo 14 .geq k13 (kW 256)] (.cond k14 (Yr [oM 15 0,Yo 16 .shr k15 (kW 8),oM 0 16] (Yg [oM 17 2,Yo 18 .add k17 q8,
 oM 2 18])) .skip)) (Yr [oM 19 2,oM 20 0,oO 21 (.conv .u8 k20),⟨(some 22),.indexS (.const (.string ⟨#[0,1,2,2,3,3,3,3,4,4,4,4,4,4,4,4,5,5,5,5,5,5,5,5,5,5,5,5,5,5,5,5,6,6,6,6,6,6,6,6,6,6,6,6,6,6,6,6,6,6,
 6,6,6,6,6,6,6,6,6,6,6,6,6,6,7,7,7,7,7,7,7,7,7,7,7,7,7,7,7,7,7,7,7,7,7,7,7,7,7,7,7,7,7,7,7,7,7,7,7,7,7,7,7,7,7,7,7,7,7,7,7,7,7,7,7,7,7,7,7,7,7,7,7,7,7,7,7,7,8,8,8,8,8,8,8,8,8,8,8,8,8,8,8,8,8,8,8,8,8,8,8,
 8,8,8,8,8,8,8,8,8,8,8,8,8,8,8,8,8,8,8,8,8,8,8,8,8,8,8,8,8,8,8,8,8,8,8,8,8,8,8,8,8,8,8,8,8,8,8,8,8,8,8,8,8,8,8,8,8,8,8,8,8,8,8,8,8,8,8,8,8,8,8,8,8,8,8,8,8,8,8,8,8,8,8,8,8,8,8,8,8,8,8,8,8,8,8,8,8,8,8,8,8,
 8,8,8,8]⟩)) k21,none⟩,oO 23 (.conv .i64 k22),Yo 24 .add k19 k23,oM 2 24] .ret)))))
theorem ok184:Y4 184 25 ir184 [.tmp 2]:=Yf Tryz.func184 Tryz.ntmps184
def ir185:X6:=(Yr [Yb 3 1,Yj 4 q0] (sQ (Yr [oM 6 0,Yn 7 6,Yj 8 q0] (.block 0 (.loop (Yr [Yo 9 .lss k8 k7] (sQ (.cond k9 .skip (.exit 0)) (sQ (.block 1 (Yr [oM 10 8,oM 5 10] (sQ (.draw [Yd 0 (Yl 11 2 3) 0 0,
 Yd 1 (oM 12 0) 0 0,Yd 2 (oM 13 5) 0 0,Yd 3 (Yi 14 2 12 13) 6 0,Yd 4 (Yl 15 2 14) 14 0,Yd 5 (oO 16 (.bin .eql (.cells [0,0]) k11 k15)) 31 1]) (.cond k16 (Yr [oM 17 5,oM 4 17] .ret) .skip)))) (Yg [Yo 18 .add k8 q1,
 oM 8 18]))))))) (Yr [oO 4 (.mov (.const (.int .i64 (-1))))] .ret)))
theorem ok185:Y4 185 19 ir185 [.tmp 4]:=Yf Tryz.func185 Tryz.ntmps185
def ok186 := Xm Tryz.func186 Tryz.ntmps186
def ok187 := Xm Tryz.func187 Tryz.ntmps187
def ok188 := Xm Tryz.func188 Tryz.ntmps188
def ir189:X6:=(Yr [Yb 2 0,Yb 3 1,Yz 4 [nS,nS]] (sQ (.draw [Yd 0 (Ya 5 0 2) 0 0,Yd 1 (Yl 6 1 5) 1 0,Yd 2 (Ya 7 0 3) 0 0,Yd 3 (Yl 8 1 7) 4 0,Yd 4 (Yc 9 59 [k6,k8]) 15 0,Yd 5 (Ya 10 1 2) 0 0,Yd 6 (Yl 11 1 10) 32 0,
 Yd 7 (Ya 12 1 3) 0 0,Yd 8 (Yl 13 1 12) 128 0,Yd 9 (Yc 14 59 [k11,k13]) 511 1,Yd 10 (oO 15 (.build [nS,nS] [(0,1,k9),(1,1,k14)])) 1023 1,Yd 11 (Ys 2 4 15) 2047 1]) .ret))
theorem ok189:Y4 189 16 ir189 [.cell 4 true 2]:=Yf Tryz.func189 Tryz.ntmps189
def ok190 := Xm Tryz.func190 Tryz.ntmps190
def ir191:X6:=(Yr [oM 4 0,Yn 5 4,Yo 6 .sub k5 q1,Yj 2 q0,oM 3 6] (.block 0 (.loop (sQ (Yr [oM 7 2,oM 8 3,Yo 9 .lss k7 k8] (.cond k9 .skip (.exit 0))) (sQ (.block 1 (.draw [Yd 0 (oM 14 0) 0 0,Yd 1 (oM 15 2) 0 0,
 Yd 2 (oM 16 0) 0 0,Yd 3 (oM 17 3) 0 0,Yd 4 (oM 18 0) 0 0,Yd 5 (oM 19 3) 0 0,Yd 6 (Yi 20 1 18 19) 48 0,Yd 7 (Yk 21 20) 112 0,Yd 8 (oM 22 0) 0 0,Yd 9 (oM 23 2) 0 0,Yd 10 (Yi 24 1 22 23) 768 0,Yd 11 (Yk 25 24) 1792 0,
 Yd 12 (Yi 26 1 14 15) 4083 1,Yd 13 (Ys 1 26 21) 8179 1,Yd 14 (Yi 27 1 16 17) 16383 1,Yd 15 (Ys 1 27 25) 32767 1])) (Yg [oM 10 2,Yo 11 .add k10 q1,oM 12 3,Yo 13 .sub k12 q1,oM 2 11,oM 3 13]))))))
theorem ok191:Y4 191 28 ir191 []:=Yf Tryz.func191 Tryz.ntmps191
def ok192 := Xm Tryz.func192 Tryz.ntmps192
def ok194 := Xm Tryz.func194 Tryz.ntmps194
def ir195:X6:=(sQ (Yr [Yj 7 q0] (.block 0 (.loop (Yr [Yo 8 .lss k7 q17] (sQ (.cond k8 .skip (.exit 0)) (sQ (.block 1 (Yr [oM 9 7,oM 4 9] (Yr [Yj 5 (kW 0)] (sQ (Yr [Yj 6 q7] (.block 2 (.loop (sQ (Yr [oM 10 6,
 Yo 11 .geq k10 q0] (.cond k11 .skip (.exit 2))) (sQ (.block 3 (Yg [oM 14 5,Yo 15 .shl k14 (kW 8),oM 16 1,oM 17 4,Yo 18 .mul q8 k17,oM 19 6,Yo 20 .add k18 k19,Yi 21 1 16 20,Yk 22 21,oO 23 (.conv .u64 k22),
 Yo 24 .or k15 k23,oM 5 24])) (Yg [oM 12 6,Yo 13 .sub k12 q1,oM 6 13])))))) (.draw [Yd 0 (oM 25 0) 0 1,Yd 1 (oM 26 4) 0 1,Yd 2 (oO 27 (.nilck k25)) 1 1,Yd 3 (oO 28 (.iaddrA 25 1 k27 k26)) 7 1,Yd 4 (Yk 29 28) 15 1,
 Yd 5 (oM 30 5) 0 0,Yd 6 (Yo 31 .xor k29 k30) 63 1,Yd 7 (oO 32 (.nilck k25)) 1 0,Yd 8 (oO 33 (.iaddrA 25 1 k32 k26)) 255 1,Yd 9 (Ys 1 33 31) 511 1]))))) (Yg [Yo 34 .add k7 q1,oM 7 34]))))))) (Yg [oM 35 0,
 Yc 36 214 [k35]]))
theorem ok195:Y4 195 37 ir195 []:=Yf Tryz.func195 Tryz.ntmps195
def ok202 := Xm Tryz.func202 Tryz.ntmps202
def ir203:X6:=(Yr [oO 4 (.mov (.const nS))] (sQ (Yr [oM 8 0,Yn 9 8,Yo 10 .lss k9 q2] (.cond k10 (Yr [oM 11 0,oM 4 11] .ret) .skip)) (sQ (Yr [Yj 5 q1] (.block 0 (.loop (sQ (Yr [oM 12 5,oM 13 0,Yn 14 13,
 Yo 15 .lss k12 k14] (.cond k15 .skip (.exit 0))) (sQ (.block 1 (sQ (.draw [Yd 0 (oM 18 1) 0 0,Yd 1 (oM 19 0) 0 0,Yd 2 (oM 20 5) 0 0,Yd 3 (Yi 21 2 19 20) 6 0,Yd 4 (Yl 22 2 21) 14 0,Yd 5 (oM 23 0) 0 0,Yd 6 (oM 24 5) 0 0,
 Yd 7 (Yo 25 .sub k24 q1) 64 0,Yd 8 (Yi 26 2 23 25) 224 0,Yd 9 (Yl 27 2 26) 480 0,Yd 10 (oO 28 (.call k18 [k22,k27])) 1023 1]) (.cond k28 (Yr [oM 29 0,oM 30 5,oO 31 (.slc 2 k29 (some k30) none none),oM 6 31] (sQ (Yr [Yj 7 q1] (.block 2 (.loop (sQ (Yr [oM 32 7,
 oM 33 6,Yn 34 33,Yo 35 .lss k32 k34] (.cond k35 .skip (.exit 2))) (sQ (.block 3 (sQ (.draw [Yd 0 (oM 38 1) 0 0,Yd 1 (oM 39 6) 0 0,Yd 2 (oM 40 7) 0 0,Yd 3 (Yi 41 2 39 40) 6 0,Yd 4 (Yl 42 2 41) 14 0,Yd 5 (oM 43 6) 0 0,
 Yd 6 (oM 44 7) 0 0,Yd 7 (Yo 45 .sub k44 q1) 64 0,Yd 8 (Yi 46 2 43 45) 224 0,Yd 9 (Yl 47 2 46) 480 0,Yd 10 (oO 48 (.call k38 [k42,k47])) 1023 1,Yd 11 (Yh 49 48) 2047 1]) (.cond k49 (Yr [oM 50 0,oM 51 5,
 oM 52 6,oM 53 7,Yi 54 2 52 53,Yl 55 2 54,Yi 56 2 50 51,Ys 2 56 55] (Yg [oM 57 5,Yo 58 .add k57 q1,oM 5 58])) .skip))) (Yg [oM 36 7,Yo 37 .add k36 q1,oM 7 37])))))) (Yr [oM 59 0,oM 60 5,oO 61 (.slc 2 k59 (some k60) none none),
 ⟨none,.clear [nS,nS] k61,none⟩] (Yr [oM 62 0,oM 63 5,oO 64 (.slc 2 k62 none (some k63) none),oM 4 64] .ret)))) .skip))) (Yg [oM 16 5,Yo 17 .add k16 q1,oM 5 17])))))) (Yr [oM 65 0,oM 4 65] .ret))))
theorem ok203:Y4 203 66 ir203 [.tmp 4]:=Yf Tryz.func203 Tryz.ntmps203
def ok204 := Xm Tryz.func204 Tryz.ntmps204
def ok205 := Xm Tryz.func205 Tryz.ntmps205
def ir214:X6:=(Yr [oO 12 (.load true 24 (.global 1)),Yj 13 q0] (.block 0 (.loop (Yr [Yo 14 .lss k13 q24] (sQ (.cond k14 .skip (.exit 0)) (sQ (.block 1 (Yr [oO 15 (.indexA false 24 1 k12 k13),oM 3 15] (Yr [oO 4 (.alloc [Y5,
 Y5,Y5,Y5,Y5])] (sQ (Yr [Yj 16 q0] (.block 2 (.loop (Yr [Yo 17 .lss k16 q5] (sQ (.cond k17 .skip (.exit 2)) (sQ (.block 3 (Yr [oM 18 16,oM 5 18] (.draw [Yd 0 (oM 19 5) 0 0,Yd 1 (oM 20 0) 0 0,Yd 2 (oM 21 5) 0 0,
 Yd 3 (oO 22 (.nilck k20)) 2 0,Yd 4 (oO 23 (.iaddrA 25 1 k22 k21)) 14 0,Yd 5 (Yk 24 23) 30 0,Yd 6 (oM 25 0) 0 0,Yd 7 (oM 26 5) 0 0,Yd 8 (Yo 27 .add k26 q5) 128 0,Yd 9 (oO 28 (.nilck k25)) 64 0,Yd 10 (oO 29 (.iaddrA 25 1 k28 k27)) 960 0,
 Yd 11 (Yk 30 29) 1984 0,Yd 12 (Yo 31 .xor k24 k30) 4094 0,Yd 13 (oM 32 0) 0 0,Yd 14 (oM 33 5) 0 0,Yd 15 (Yo 34 .add k33 q10) 16384 0,Yd 16 (oO 35 (.nilck k32)) 8192 0,Yd 17 (oO 36 (.iaddrA 25 1 k35 k34)) 122880 0,
 Yd 18 (Yk 37 36) 253952 0,Yd 19 (Yo 38 .xor k31 k37) 524286 0,Yd 20 (oM 39 0) 0 0,Yd 21 (oM 40 5) 0 0,Yd 22 (Yo 41 .add k40 q15) 2097152 0,Yd 23 (oO 42 (.nilck k39)) 1048576 0,Yd 24 (oO 43 (.iaddrA 25 1 k42 k41)) 15728640 0,
 Yd 25 (Yk 44 43) 32505856 0,Yd 26 (Yo 45 .xor k38 k44) 67108862 0,Yd 27 (oM 46 0) 0 0,Yd 28 (oM 47 5) 0 0,Yd 29 (Yo 48 .add k47 q20) 268435456 0,Yd 30 (oO 49 (.nilck k46)) 134217728 0,Yd 31 (oO 50 (.iaddrA 25 1 k49 k48)) 2013265920 0,
 Yd 32 (Yk 51 50) 4160749568 0,Yd 33 (Yo 52 .xor k45 k51) 8589934590 1,Yd 34 (oO 53 (.iaddrA 5 1 k4 k19)) 17179869183 1,Yd 35 (Ys 1 53 52) 34359738367 1]))) (Yg [Yo 54 .add k16 q1,oM 16 54]))))))) (Yr [oO 6 (.alloc [Y5,
 Y5,Y5,Y5,Y5,Y5,Y5,Y5,Y5,Y5,Y5,Y5,Y5,Y5,Y5,Y5,Y5,Y5,Y5,Y5,Y5,Y5,Y5,Y5,Y5])] (sQ (Yr [Yj 55 q0] (.block 4 (.loop (Yr [Yo 56 .lss k55 q5] (sQ (.cond k56 .skip (.exit 4)) (sQ (.block 5 (Yr [oM 57 55,oM 7 57] (sQ (.draw [Yd 0 (oM 58 7) 0 0,
 Yd 1 (Yo 59 .add k58 q4) 1 0,Yd 2 (Yo 60 .rem k59 q5) 3 0,Yd 3 (oO 61 (.iaddrA 5 1 k4 k60)) 7 0,Yd 4 (Yk 62 61) 15 0,Yd 5 (oM 63 7) 0 0,Yd 6 (Yo 64 .add k63 q1) 32 0,Yd 7 (Yo 65 .rem k64 q5) 96 0,Yd 8 (oO 66 (.iaddrA 5 1 k4 k65)) 224 0,
 Yd 9 (Yk 67 66) 480 0,Yd 10 (Yc 68 220 [k67,q1]) 992 0,Yd 11 (Yo 69 .xor k62 k68) 2047 1,Yd 12 (oM 8 69) 4095 1]) (Yr [Yj 70 q0] (.block 6 (.loop (Yr [Yo 71 .lss k70 q5] (sQ (.cond k71 .skip (.exit 6)) (sQ (.block 7 (Yr [oM 72 70,
 oM 9 72] (.draw [Yd 0 (oM 73 9) 0 0,Yd 1 (oM 74 7) 0 0,Yd 2 (Yo 75 .mul q2 k74) 2 0,Yd 3 (oM 76 9) 0 0,Yd 4 (Yo 77 .mul q3 k76) 8 0,Yd 5 (Yo 78 .add k75 k77) 30 0,Yd 6 (Yo 79 .rem k78 q5) 62 0,Yd 7 (Yo 80 .mul q5 k79) 126 0,
 Yd 8 (Yo 81 .add k73 k80) 255 0,Yd 9 (oM 82 0) 0 0,Yd 10 (oM 83 7) 0 0,Yd 11 (oM 84 9) 0 0,Yd 12 (Yo 85 .mul q5 k84) 2048 0,Yd 13 (Yo 86 .add k83 k85) 7168 0,Yd 14 (oO 87 (.nilck k82)) 512 0,Yd 15 (oO 88 (.iaddrA 25 1 k87 k86)) 32256 0,
 Yd 16 (Yk 89 88) 65024 0,Yd 17 (oM 90 8) 0 0,Yd 18 (Yo 91 .xor k89 k90) 261632 0,Yd 19 (oM 92 7) 0 0,Yd 20 (oM 93 9) 0 0,Yd 21 (Yo 94 .mul q5 k93) 1048576 0,Yd 22 (Yo 95 .add k92 k94) 3670016 0,Yd 23 (oO 96 (.iaddrA 25 1 (.global 2) k95)) 7864320 0,
 Yd 24 (Yk 97 96) 16252928 0,Yd 25 (Yc 98 220 [k91,k97]) 33553920 1,Yd 26 (oO 99 (.iaddrA 25 1 k6 k81)) 67108863 1,Yd 27 (Ys 1 99 98) 134217727 1]))) (Yg [Yo 100 .add k70 q1,oM 70 100])))))))))) (Yg [Yo 101 .add k55 q1,
 oM 55 101]))))))) (sQ (Yr [Yj 10 q0] (.block 8 (.loop (sQ (Yr [oM 102 10,Yo 103 .lss X7m q25] (.cond X7i .skip (.exit 8))) (sQ (.block 9 (Yr [Yj 106 q0] (.block 10 (.loop (Yr [Yo 107 .lss X79 q5] (sQ (.cond X7I .skip (.exit 10)) (sQ (.block 11 (Yr [oM 108 106,
 oM 11 108] (.draw [Yd 0 (oM 109 0) 0 0,Yd 1 (oM 110 11) 0 0,Yd 2 (oM 111 10) 0 0,Yd 3 (Yo 112 .add X7F X7V) 6 0,Yd 4 (oM 113 11) 0 0,Yd 5 (oM 114 10) 0 0,Yd 6 (Yo 115 .add X7D X86) 48 0,Yd 7 (oO 116 (.iaddrA 25 1 k6 X72)) 112 0,
 Yd 8 (Yk 117 116) 240 0,Yd 9 (oM 118 11) 0 0,Yd 10 (Yo 119 .add X8N q1) 512 0,Yd 11 (Yo 120 .rem X8A q5) 1536 0,Yd 12 (oM 121 10) 0 0,Yd 13 (Yo 122 .add X75 X7M) 7680 0,Yd 14 (oO 123 (.iaddrA 25 1 k6 X7H)) 15872 0,
 Yd 15 (Yk 124 123) 32256 0,Yd 16 (oO 125 (.una .xor X7W)) 65024 0,Yd 17 (oM 126 11) 0 0,Yd 18 (Yo 127 .add X7K q2) 131072 0,Yd 19 (Yo 128 .rem X7z q5) 393216 0,Yd 20 (oM 129 10) 0 0,Yd 21 (Yo 130 .add X77 X7v) 1966080 0,
 Yd 22 (oO 131 (.iaddrA 25 1 k6 X7g)) 4063232 0,Yd 23 (Yk 132 131) 8257536 0,Yd 24 (Yo 133 .and X83 X7N) 16776704 0,Yd 25 (Yo 134 .xor X7C X7x) 33554416 1,Yd 26 (oO 135 (.nilck X7n)) 1 0,Yd 27 (oO 136 (.iaddrA 25 1 X7O X8O)) 134217727 1,
 Yd 28 (Ys 1 136 134) 268435455 1]))) (Yg [Yo 137 .add X79 q1,oM 106 137])))))))) (Yg [oM 104 10,Yo 105 .add X6O q5,oM 10 105])))))) (.draw [Yd 0 (oM 138 0) 0 1,Yd 1 (oO 139 (.nilck X74)) 1 1,Yd 2 (oO 140 (.iaddrA 25 1 X7l q0)) 3 1,
 Yd 3 (Yk 141 140) 7 1,Yd 4 (oM 142 3) 0 0,Yd 5 (Yo 143 .xor X7U X7Y) 31 1,Yd 6 (oO 144 (.nilck X74)) 1 0,Yd 7 (oO 145 (.iaddrA 25 1 X7S q0)) 127 1,Yd 8 (Ys 1 145 143) 255 1])))))))) (Yg [Yo 146 .add k13 q1,
 oM 13 146])))))))
theorem ok214:Y4 214 147 ir214 []:=Yf Tryz.func214 Tryz.ntmps214
def ok220 := Xm Tryz.func220 Tryz.ntmps220
end
section
open Go.RowKit
attribute [local irreducible] aw Xr dK
def XJ (l:List Int):List (List PV):=l.map fun x => [.val (.int .i64 x)]
def X4 (l:List Nat):List (List PV):=l.map fun (x:Nat) => [.val (.int .u64 (x:Int))]
def X5G (l:List Nat):PV:=.agg [.vec (X4 l) false]
theorem Z3k {α:Type} (l:List α) (g:α->List PV) (hg:∀ x∈l,X5 (g x)):X1 (l.map g):=by
 refine (Z2j _ _).2 fun p hp=>?_; obtain⟨x,hx,rfl⟩:=Y0i.1 hp; exact hg x hx
theorem Z43 (l:List Nat):(X5G l).pure:=⟨Z3k _ _ fun _ _=>⟨Yt,Yt⟩,Yt⟩
theorem Z7 (l:List Nat):X1 (X4 l):=Z3k _ _ fun _ _=>⟨Yt,Yt⟩
def X40 (l:List Nat) (r:PV):Prop:=∃ k,k<=l.length/\(∀ j,k<=j->l.getD j 0=0)/\(k=0 \/ l.getD (k-1) 0≠0)/\r=X5G (l.take k)
theorem Z9e (k:Nat) (h:k<=9223372036854775807):IntKind.i64.wrap (k:Int)=k:=Y0v _ ⟨by omega,by omega⟩
theorem Z2l (l:List Nat):X7 Tryz.prog 40 [.vec (X4 l) false] (X40 l):=by
 refine Yp ok40 fun C hC=>?_;refine Z40 (k:=0) rfl fun hmax=>?_;have hlm:l.length<=Xj:=by simpa [X4] using hmax
 refine Zm ?_;refine Z9 ?_;refine go ?_;refine Z4A (fun k=>k<=l.length/\∀ j,k<=j->l.getD j 0=0) id (fun k => [(0,.vec (X4 (l.take k)) false),(2,.ptr 0 0 0)]) l.length ⟨Y0m _,fun j hj=>by simp [Y0b,hj]⟩ ⟨by rw [Y0q]; rfl,rfl,Yt⟩ ?_;rintro k ⟨hk,hzero⟩;have hlen:(X4 (l.take k)).length=k:=by simp [X4,hk]
 have hkm:k<=Xj:=by omega
 (refine go ?_;repeat' (apply B<;>intro hb<;>try cases hb))
 . -- the last word
   have hpos:0<k:=by simpa [hlen] using hb
   have hsub:IntKind.i64.wrap (((X4 (l.take k)).length:Int)-1)=((k-1:Nat):Int):=by
    rw [hlen,show (k:Int)-1=((k-1:Nat):Int) by omega]; exact Z9e _ (by simp only [Xj] at hkm;omega)
   refine Z8j (xs:=l.take k) rfl rfl (k-1) hsub (by simp;omega) rfl rfl ?_;have hget : (l.take k)[k - 1]'(by simp;omega) = l.getD (k - 1) 0 := by
    simp [Y0b,show k-1<l.length by omega]
   rw [hget];(refine go ?_;repeat' (apply B<;>intro hb<;>try cases hb))
   . refine Zis (xs := l.take k) rfl 0 (k - 1) rfl (by show some _ = some _; rw [hsub]) (by omega) (by simp; omega) (fun _ => rfl) rfl ?_;(refine go ?_;repeat' (apply B<;>intro hb<;>try cases hb));refine⟨k-1,⟨by omega,fun j hj=>?_⟩,by simp; omega,rfl,rfl,⟨?_,rfl,Yt⟩⟩
     . by_cases hjk : j = k - 1
       . subst hjk; simpa using hb
       . exact hzero j (by omega)
     . show some (PV.vec (X4 (((l.take k).take (k - 1)).drop 0)) false) = _;rw [Y12,Y3w,Y1X (by omega)]
   . refine Z8 rfl (Z43 (l.take k)) ⟨k, hk, hzero, .inr ?_, rfl⟩;intro h0;rw [h0] at hb;simp at hb
 . refine Z8 rfl (Z43 (l.take k)) ⟨k, hk, hzero, .inl ?_, rfl⟩;simpa [hlen] using hb
theorem Z1j (l:List Nat) (k:Nat):X7 Tryz.prog 63 [X5G l,.val (.int .i64 k)] (· = .val (.int .u64 (l.getD k 0:Nat))):=by
 refine Yp ok63 fun C hC=>?_;refine Zm ?_;refine Z9 ?_;refine Z5 rfl rfl rfl ?_;(refine go ?_;repeat' (apply B<;>intro hb<;>try cases hb))
 . have hk : k < l.length := by simpa [X4] using hb
   refine Z8j (xs:=l) rfl rfl k rfl hk rfl rfl ?_;(refine go ?_;repeat' (apply B<;>intro hb<;>try cases hb));exact Z8 rfl Yt (by simp [Y0b,hk])
 . have hk : l.length <= k := by simpa [X4] using hb
   exact Z8 rfl Yt (by simp [Y0b,hk,X3Z])
def ofW:List Nat->Nat
 | []=>0
 | x :: r=>x+18446744073709551616*ofW r
def X1z (l:List Nat):Prop:=∀ x∈l,x<18446744073709551616
theorem X1z.getD {l:List Nat} (h:X1z l) (k:Nat):l.getD k 0<18446744073709551616:=by
 rw [Y0b];cases hk:l[k]? with
 | none=>simp
 | some x=>exact h x (YG hk)
theorem Z2M:∀ {l:List Nat},X1z l->∀ i,(ofW l).testBit i=(l.getD (i / 64) 0).testBit (i % 64)
 | [],_,i=>by simp [ofW]
 | x :: r, h, i => by
   have hx:x<2 ^ 64:=h x (by simp);have hr:X1z r:=fun y hy=>h y (by simp [hy]);have he:ofW (x :: r)=2 ^ 64*ofW r+x:=by simp only [ofW]; omega
   rw [he,Y4z _ hx];by_cases hi:i<64
   . rw [Y6 hi,Y2a hi,Y1v hi]; rfl
   . rw [Y8 hi, Z2M hr];have h1:i / 64=(i-64) / 64+1:=by omega
     have h2:(i-64) % 64=i % 64:=by omega
     rw [h1,h2]
     rfl
theorem Z6K:∀ {l:List Nat},(∀ j,l.getD j 0=0)->ofW l=0
 | [],_=>rfl
 | x :: r, h => by
   have h0:x=0:=h 0;have hr:ofW r=0:=Z6K fun j=>h (j+1);simp [ofW,h0,hr]
theorem Zds:∀ {l:List Nat} {k:Nat},(∀ j,k<=j->l.getD j 0=0)->ofW (l.take k)=ofW l
 | [],k,_=>by simp
 | x :: r,0,h=>by simp only [Y1r]; exact (Z6K fun j=>h j (Y0l _)).symm
 | x :: r, k + 1, h => by
   simp only [List.take_succ_cons,ofW];rw [Zds (l:=r) (k:=k) fun j hj=>h (j+1) (by omega)]
def Xb (N:Nat):List Nat:=if h:N=0 then [] else N % 18446744073709551616 :: Xb (N / 18446744073709551616)
termination_by N
decreasing_by omega
theorem ZL:Xb 0 = []:=by rw [Xb]; simp
theorem Z4D {N:Nat} (h:N≠0):Xb N=N % 18446744073709551616 :: Xb (N / 18446744073709551616):=by rw [Xb]; simp [h]
theorem Z3l (N:Nat):X1z (Xb N):=by
 induction N using Nat.strongRecOn with
 | _ N ih =>
   by_cases h:N=0
   . rw [h,ZL]; intro x hx; cases hx
   . rw [Z4D h];intro x hx;rcases YD.1 hx with rfl|hx
     . omega
     . exact ih _ (by omega) x hx
theorem Z6L (N:Nat):ofW (Xb N)=N:=by
 induction N using Nat.strongRecOn with
 | _ N ih =>
   by_cases h:N=0
   . rw [h,ZL]; rfl
   . rw [Z4D h,ofW,ih _ (by omega)]; omega
def X4y (l:List Nat):Prop:=l.length=0 \/ l.getD (l.length-1) 0≠0
theorem Zdt:∀ {l:List Nat},X1z l->X4y l->Xb (ofW l)=l
 | [],_,_=>by simp [ofW,ZL]
 | x :: r, h, hc => by
   have hx:x<18446744073709551616:=h x (by simp);have hr:X1z r:=fun y hy=>h y (by simp [hy]);have hcr:X4y r:=by
    cases r with
    | nil=>exact .inl rfl
    | cons y s => refine .inr ?_; rcases hc with hc | hc
                  . simp at hc
                  . simpa using hc
   have ih:=Zdt hr hcr;have hne:ofW (x :: r)≠0:=by
    simp only [ofW];cases r with
    | nil => rcases hc with hc | hc
             . simp at hc
             . simp at hc; simp [ofW]; exact hc
    | cons y s =>
      have:ofW (y :: s)≠0:=fun h0=>by rw [h0,ZL] at ih; cases ih
      omega
   have h1:ofW (x :: r) % 18446744073709551616=x:=by simp only [ofW]; omega
   have h2:ofW (x :: r) / 18446744073709551616=ofW r:=by simp only [ofW]; omega
   rw [Z4D hne,h1,h2,ih]
def XG (N:Nat):PV:=X5G (Xb N)
theorem Z2 (N:Nat):(XG N).pure:=Z43 _
theorem Zdu {l:List Nat} (h:X1z l) (hc:X4y l):X5G l=XG (ofW l):=by rw [XG,Zdt h hc]
theorem X40.set {l:List Nat} (hl:X1z l) {r:PV} (h:X40 l r):r=XG (ofW l):=by
 obtain⟨k,hk,hz,hn,rfl⟩:=h;rw [<- Zds hz];refine Zdu (fun x hx=>hl x (YM hx)) ?_;rcases hn with rfl|hn
 . exact .inl (by simp)
 . by_cases h0 : k = 0
   . subst h0; exact .inl (by simp)
   . refine .inr ?_;have e:(l.take k).length=k:=by simp [hk]
     rw [e];simpa [Y0b,Y1l,show k-1<k by omega] using hn
theorem Zam (l:List Nat) (k v:Nat):(X4 l).set k [.val (.int .u64 (v:Int))]=X4 (l.set k v):=by simp [X4,Y4m]
theorem X1z.set {l:List Nat} (h:X1z l) (k:Nat) {v:Nat} (hv:v<18446744073709551616):X1z (l.set k v):=fun x hx=>by
 rcases Y2O hx with hx|rfl
 . exact h x hx
 . exact hv
theorem ZjW {l:List Nat} (h:X1z l) {k j:Nat} (hk:k<l.length) (hj:j<64):ofW (l.set k (l.getD k 0 ||| 2 ^ j))=ofW l ||| 2 ^ (64*k+j):=by
 have hv:l.getD k 0 ||| 2 ^ j<18446744073709551616:=Y2n (n:=64) (h.getD k) (Y1P (by omega) hj)
 refine YE fun i=>?_;rw [Z2M (h.set k hv),Y00,Z2M h,YI];by_cases hik:i / 64=k
 . subst hik;have:(l.set (i / 64) (l.getD (i / 64) 0 ||| 2 ^ j)).getD (i / 64) 0=l.getD (i / 64) 0 ||| 2 ^ j:=by simp [Y0b,hk]
   rw [this,Y00,YI];congr 1;rw [Y27];omega
 . have : (l.set k (l.getD k 0 ||| 2 ^ j)).getD (i / 64) 0 = l.getD (i / 64) 0 := by
    simp only [Y0b,Y1p,Y8 (Y2L hik)]
   rw [this];have:¬ (64*k+j=i):=by omega
   simp [this]
def X1v (top:Int) (l:List Int):Nat:=l.foldl (fun acc i=>if 0<=i/\i<=top then acc ||| 2 ^ i.toNat else acc) 0
def X1p (l:List Int):Int:=l.foldl (fun t i=>if i<=4095 then (if i>t then i else t) else t) (-1)
theorem Z8n {l:List Int} {i:Nat} (hi:i<l.length):X1p (l.take (i+1))=if l[i]<=4095 then (if l[i]>X1p (l.take i) then l[i] else X1p (l.take i)) else X1p (l.take i):=by
 simp only [X1p,YW,Y0c hi,Option.toList_some,Y1y,Y1b,Y4G]
 rfl
theorem topOf_take' {l:List Int} {i:Nat} (hi:i<l.length) (h:l[i]<=4095):X1p (l.take (i+1))=if l[i]>X1p (l.take i) then l[i] else X1p (l.take i):=by rw [Z8n hi,Y6 h]
theorem ZbS {l:List Int} {i:Nat} (hi:i<l.length) (h:¬ l[i]<=4095):X1p (l.take (i+1))=X1p (l.take i):=by rw [Z8n hi,Y8 h]
theorem Z79 {t:Int} {l:List Int} {i:Nat} (hi:i<l.length):X1v t (l.take (i+1))=if 0<=l[i]/\l[i]<=t then X1v t (l.take i) ||| 2 ^ l[i].toNat else X1v t (l.take i):=by
 simp only [X1v,YW,Y0c hi,Option.toList_some,Y1y,Y1b,Y4G]
theorem ZbT:∀ (l:List Int),-1<=X1p l/\X1p l<=4095:=by
 intro l;have:∀ (l:List Int) (t:Int),-1<=t->t<=4095 -> -1<=l.foldl (fun t i=>if i<=4095 then (if i>t then i else t) else t) t/\l.foldl (fun t i=>if i<=4095 then (if i>t then i else t) else t) t<=4095:=by
  intro l
  induction l with
  | nil=>intro t h1 h2; exact⟨h1,h2⟩
  | cons x r ih =>
    intro t h1 h2;simp only [Y1b];refine ih _ ?_ ?_
    . split
      . split<;>omega
      . exact h1
    . split
      . split<;>omega
      . exact h2
 exact this l (-1) (by omega) (by omega)
theorem ZeH {t:Int} {l:List Int} (h:t<0):X1v t l=0:=by
 have:∀ (l:List Int) (a:Nat),l.foldl (fun acc i=>if 0<=i/\i<=t then acc ||| 2 ^ i.toNat else acc) a=a:=by
  intro l
  induction l with
  | nil=>intro a; rfl
  | cons x r ih=>intro a; simp only [Y1b]; rw [Y8 (by omega)]; exact ih a
 exact this l 0
theorem ZJ (l:List Int):X1 (XJ l):=Z3k _ _ fun _ _=>⟨Yt,Yt⟩
theorem Z5p (l:List Int) (D:Nat->Prop):Xt D (XJ l):=Zd (fun _ h=>h.elim) _ (ZJ l)
theorem Zp (l:List Nat) (D:Nat->Prop):Xt D (X4 l):=Zd (fun _ h=>h.elim) _ (Z7 l)
theorem ZbU (l:List Int) (fl:Bool):X7 Tryz.prog 12 [.vec (XJ l) fl] (· = XG (X1v (X1p l) l)):=by
 refine Yp ok12 fun C hC=>?_;refine Z40 (k:=0) rfl fun hmax=>?_;have hlm:l.length<=Xj:=by simpa [XJ] using hmax
 have hnl:(XJ l).length=l.length:=by simp [XJ]
 refine go ?_;refine Z4A (fun i=>i<=l.length) (fun i=>l.length-i) (fun i => [(0,.vec (XJ l) fl),(2,.ptr 0 0 0),(3,.val (.int .i64 (X1p (l.take i)))),(9,.vec (XJ l) fl),(10,.val (.int .i64 (l.length:Int))),(11,Yv i)]) 0 (Y0l _) ⟨rfl,rfl,rfl,rfl,by rw [<- hnl]; rfl,rfl,Yt⟩ ?_;intro i hi;have hinc:IntKind.i64.wrap ((i:Int)+1)=((i+1:Nat):Int):=Y0v _ ⟨by omega,by simp only [Xj] at hlm; omega⟩;(refine go ?_;repeat' (apply B<;>intro hb<;>try cases hb))
 . have hil : i < l.length := by simpa using hb
   refine Qo (Zl (xs:=l) rfl rfl i rfl hil rfl) ?_;(refine go ?_;repeat' (apply B<;>intro hb<;>try cases hb))
   . refine ⟨i + 1, by omega, by omega, rfl, rfl, ⟨rfl, rfl, ?_, rfl, rfl, by show some _ = some _; rw [hinc], Yt⟩⟩;rw [topOf_take' hil (by simpa using hb)]; rfl
   . refine ⟨i + 1, by omega, by omega, rfl, rfl, ⟨rfl, rfl, ?_, rfl, rfl, by show some _ = some _; rw [hinc], Yt⟩⟩;rw [ZbS hil (by simpa using hb)]; rfl
 . -- no member
   rename_i hb2;have hil:i=l.length:=by simp at hb2; omega
   subst hil;refine Z1K rfl ⟨Yt,Yt⟩ ?_;rw [Y0q] at hb;have hlt:X1p l<0:=by simpa using hb
   rw [ZeH hlt,XG,ZL]
   rfl
 . rename_i hb2;have hil:i=l.length:=by simp at hb2; omega
   subst hil;rw [Y0q] at hb ⊢;have hge:0<=X1p l:=by simpa using hb
   obtain⟨t,ht⟩:∃ t:Nat,X1p l=t:=⟨(X1p l).toNat,by omega⟩
   have htr:=(ZbT l).2;rw [ht] at htr ⊢;have hq:IntKind.i64.wrap ((t:Int).tdiv 64)=((t / 64:Nat):Int):=by
    rw [Y32 _ _ ⟨by omega,by omega,by omega⟩]; omega
   have hq1:IntKind.i64.wrap (((t / 64:Nat):Int)+1)=((t / 64+1:Nat):Int):=Y0v _ ⟨by omega,by omega⟩;rw [hq,hq1];refine ZH (Z9b (a:=t / 64+1) (b:=t / 64+1) rfl rfl (Y0m _) (by omega)) rfl rfl ?_;have hrep:List.replicate (t / 64+1) (zpv [Value.int .u64 0])=X4 (List.replicate (t / 64+1) 0):=by simp [X4,zpv,X3Z]
   rw [hrep];refine go ?_;refine Zz hC (fun (x:Nat×List Nat)=>x.1<=l.length/\x.2.length=t / 64+1/\X1z x.2/\ofW x.2=X1v t (l.take x.1)) (fun x=>l.length-x.1) 2 (fun x => [(2,.ptr 0 0 0),(3,.val (.int .i64 (t:Int))),(6,.own 1),(28,.vec (XJ l) fl),(29,.val (.int .i64 (l.length:Int))),(30,.val (.int .i64 (x.1:Int)))])
    (fun x => [(0,⟨1,[[.vec [] true]]⟩),(1,⟨1,X4 x.2⟩)]) (by omega) (0,List.replicate (t / 64+1) 0) ⟨Y0l _,by simp,fun x hx=>by obtain rfl:=Y1q hx; omega,?_⟩ ⟨⟨rfl,show (0:Nat)<2 by decide⟩,⟨rfl,Yt⟩,⟨rfl,show (1:Nat)<2 by decide⟩,⟨rfl,Z5p _ _⟩,⟨by rw [<- hnl]; rfl,Yt⟩,⟨rfl,Yt⟩,Yt⟩
    ⟨⟨by omega,rfl,⟨Yt,Yt⟩,Yt⟩,⟨by omega,rfl,Zp _ _⟩,Yt⟩ ?_
   . rw [Z6K fun j=>by simp [Y0b,Y3H]; split<;>rfl]; rfl
   rintro⟨i,ws⟩ ⟨hi,hwl,hww,hmask⟩;simp only at hi hwl hww hmask;have hinc:IntKind.i64.wrap ((i:Int)+1)=((i+1:Nat):Int):=Y0v _ ⟨by omega,by simp only [Xj] at hlm; omega⟩;(refine go ?_;repeat' (apply B<;>intro hb<;>try cases hb))
   . have hil : i < l.length := by simpa using hb
     refine Qo (Zl (xs:=l) rfl rfl i rfl hil rfl) ?_;(refine go ?_;repeat' (apply B<;>intro hb<;>try cases hb))
     . have h0 : 0 <= l[i] := by rename_i h0; simpa using h0
       have h1:l[i]<=(t:Int):=by simpa using hb
       have hm:X1v t (l.take (i+1))=X1v t (l.take i) ||| 2 ^ l[i].toNat:=by rw [Z79 hil,Y6 ⟨h0,h1⟩]
       obtain⟨j,hj⟩:∃ j:Nat,l[i]=j:=⟨l[i].toNat,by omega⟩
       rw [hj] at h1 hm ⊢;rw [YZ] at hm;have hjq:IntKind.i64.wrap ((j:Int).tdiv 64)=((j / 64:Nat):Int):=by
        rw [Y32 _ _ ⟨by omega,by omega,by omega⟩]; omega
       have hjr:(j:Int).tmod 64=((j % 64:Nat):Int):=by
        rw [Y1Q (by omega)]; omega
       rw [hjq];have hjl:j / 64<ws.length:=by omega
       have hel:(X4 ws).getD (j / 64) [] = [.val (.int .u64 (ws.getD (j / 64) 0:Nat))]:=by simp [X4,Y0b,hjl]
       have hj64:j % 64<64:=Y1F _ (by omega);have hwn:(X4 ws).length=ws.length:=by simp [X4]
       refine Qr (ZF rfl rfl rfl (j / 64) rfl (by rw [hwn]; exact hjl) rfl) ?_;refine Qr (Z1v rfl rfl (by rw [hwn]; exact hjl) (by rw [hel]; rfl)) ?_;(first|refine st ?_|(apply B<;>intro hb<;>try cases hb));refine Qr (ZS rfl hjr) ?_
       refine Qr (ZeE rfl rfl (by omega) (v:=((2 ^ (j % 64):Nat):Int)) (by
        rw [show min (((j % 64:Nat):Int)).toNat IntKind.u64.bits=j % 64 by simp [IntKind.bits]; omega];have:2 ^ (j % 64)<2 ^ 64:=Y1P (by omega) hj64;rw [Y49,show (2:Int) ^ (j % 64)=((2 ^ (j % 64):Nat):Int) by simp]
        exact Y0x _ ⟨Y1Y _,Y38.2 (show _<=18446744073709551615 by omega)⟩)) ?_
       refine Qr (ZS rfl (Y1H _ _ (hww.getD _) (show 2 ^ (j % 64)<2 ^ 64 from Y1P (by omega) hj64))) ?_;refine Qr (ZF rfl rfl rfl (j / 64) rfl (by rw [hwn]; exact hjl) rfl) ?_;refine Qr (Z1Q rfl rfl rfl rfl rfl (by rw [hwn]; exact hjl) (Y0m _)) ?_;rw [hel,show Xl [PV.val (Value.int .u64 (ws.getD (j / 64) 0:Nat))] 0 (PV.val (Value.int .u64 ((ws.getD (j / 64) 0 ||| 2 ^ (j % 64):Nat):Int))).cells = [.val (.int .u64 ((ws.getD (j / 64) 0 ||| 2 ^ (j % 64):Nat):Int))] from rfl];simp only;rw [Zam];(refine go ?_;repeat' (apply B<;>intro hb<;>try cases hb));refine⟨(i+1,ws.set (j / 64) (ws.getD (j / 64) 0 ||| 2 ^ (j % 64))),⟨by simp only; omega,by simpa using hwl,hww.set _ (Y2n (n:=64) (hww.getD _) (Y1P (a:=2) (by omega) hj64)),?_⟩,by simp only; omega,⟨⟨rfl,show (0:Nat)<2 by decide⟩,⟨rfl,Yt⟩,⟨rfl,show (1:Nat)<2 by decide⟩,⟨rfl,Z5p _ _⟩,⟨rfl,Yt⟩,⟨by show some _=some _; rw [hinc],Yt⟩,Yt⟩,⟨⟨by omega,rfl,⟨Yt,Yt⟩,Yt⟩,⟨by omega,rfl,Zp _ _⟩,Yt⟩⟩;simp only;rw [ZjW hww hjl hj64,hm,hmask,show 64*(j / 64)+j % 64=j by omega]
     all_goals
      refine⟨(i+1,ws),⟨by simp only; omega,hwl,hww,?_⟩,by simp only; omega,⟨⟨rfl,show (0:Nat)<2 by decide⟩,⟨rfl,Yt⟩,⟨rfl,show (1:Nat)<2 by decide⟩,⟨rfl,Z5p _ _⟩,⟨rfl,Yt⟩,⟨by show some _=some _; rw [hinc],Yt⟩,Yt⟩,⟨⟨by omega,rfl,⟨Yt,Yt⟩,Yt⟩,⟨by omega,rfl,Zp _ _⟩,Yt⟩⟩;simp only;rw [Z79 hil,Y8 (by simp at hb;omega)];exact hmask
   . have hil : i = l.length := by simp at hb; omega
     subst hil;refine Za (Zj (k:=52) rfl rfl (Z7 ws)) ?_;refine Zw rfl rfl (Z2l ws) ⟨Z7 ws,Yt⟩ rfl fun r hr=>?_;obtain rfl:=hr.set hww;refine go ?_;exact Z8 (r:=XG (ofW ws)) rfl (Z2 _) (by rw [hmask,Y0q])
theorem Z9f (a k:Nat):Int.fdiv (a:Int) (2 ^ k)=((a / 2 ^ k:Nat):Int):=by
 rw [Y3q _ (by exact Int.le_of_lt (Int.pow_pos (by omega)))];simp
theorem Zdv (l:List Nat) (hl:X1z l) (i:Int):X7 Tryz.prog 22 [X5G l,.val (.int .i64 i)] (· = .val (.bool (decide (0<=i/\i<=4095)&&(l.getD (i.toNat / 64) 0).testBit (i.toNat % 64)))):=by
 refine Yp ok22 fun C hC=>?_;refine Zm ?_;refine Z9 ?_;refine Z5 rfl rfl rfl ?_;(refine go ?_;repeat' (apply B<;>intro hb<;>try cases hb))
 . rename_i h0;have h1:0<=i:=by simpa using h0
   have h2:i<=4095:=by simpa using hb
   obtain⟨j,rfl⟩:∃ j:Nat,i=j:=⟨i.toNat,by omega⟩
   have hq:IntKind.i64.wrap ((j:Int).tdiv 64)=((j / 64:Nat):Int):=by
    rw [Y32 _ _ ⟨by omega,by omega,by omega⟩]; omega
   have hr:(j:Int).tmod 64=((j % 64:Nat):Int):=by
    rw [Y1Q (by omega)]; omega
   refine Z6 (Z1j l (j / 64)) rfl rfl (by show [_,_]=_; rw [hq]; rfl) ⟨Z43 l,Yt,Yt⟩ rfl ?_;refine Zn rfl ?_;(first|refine st ?_|(apply B<;>intro hb<;>try cases hb));refine Zn rfl ?_;refine Ze rfl rfl rfl hr ?_;refine Zn rfl ?_;have hw:=hl.getD (j / 64);have hm:j % 64<64:=Y1F _ (by omega)
   refine Z3x rfl rfl (by omega) (v:=((l.getD (j / 64) 0 / 2 ^ (j % 64):Nat):Int)) (by
    rw [show min (((j % 64:Nat):Int)).toNat IntKind.u64.bits=j % 64 by simp [IntKind.bits]; omega]
    exact Z9f _ _) rfl ?_
   refine Zn rfl ?_
   refine Ze rfl rfl rfl (and_one_u64 _ (Y1Y _) (by
    have:=Y4B (l.getD (j / 64) 0) (2 ^ (j % 64))
    exact Y38.2 (show _<=18446744073709551615 by omega))) ?_
   have ht:(((l.getD (j / 64) 0 / 2 ^ (j % 64):Nat):Int) % 2 == 1)=(l.getD (j / 64) 0).testBit (j % 64):=by
    rw [Y4h,YQ];generalize l.getD (j / 64) 0 / 2 ^ (j % 64)=z;simp only [Y1S,Y0n];omega
   have ht':(decide (0<=(j:Int)/\(j:Int)<=4095)&&(l.getD ((j:Int).toNat / 64) 0).testBit ((j:Int).toNat % 64))=(l.getD (j / 64) 0).testBit (j % 64):=by
    simp only [YZ,Yw (show 0<=(j:Int)/\(j:Int)<=4095 from ⟨h1,h2⟩),Y1g]
   rw [ht',<- ht];refine Zn rfl ?_;generalize (((l.getD (j / 64) 0 / 2 ^ (j % 64):Nat):Int) % 2)=z;(refine go ?_;repeat' (apply B<;>intro hb<;>try cases hb))
   all_goals exact Z8 rfl Yt (by rw [hb])
 . exact Z8 rfl Yt (by simp at hb ⊢;omega)
 . exact Z8 rfl Yt (by simp at hb ⊢;omega)
def rep (c:Nat):Nat->Nat
 | 0=>0
 | n+1=>c+256*rep c n
def s1 (m x:Nat):Nat:=(x / 2 &&& m)+(x &&& m)
def s2 (m x:Nat):Nat:=(x / 4 &&& m)+(x &&& m)
def s3 (m x:Nat):Nat:=(x / 16+x) &&& m
theorem ZbV (l:List Int):(XJ l).length=l.length:=by simp [XJ]
theorem Zgi (N:Nat) (r:Int) (h1:0<=r) (h2:r<=4095):X7 Tryz.prog 22 [.agg [.vec (X4 (Xb N)) false],.val (.int .i64 r)] (· = .val (.bool (N.testBit r.toNat))):=by
 have h:=Zdv (Xb N) (Z3l N) r;rw [Yw (⟨h1,h2⟩:0<=r/\r<=4095),Y1g,<- Z2M (Z3l N),Z6L] at h;exact h
theorem Z7a (N j:Nat):((((N / 2 ^ j % 2:Nat):Int)) == 1)=N.testBit j:=by
 rw [Y4h,YQ];simp only [Y1S,Y0n];omega
theorem Z44 (N j:Nat) (h:j<64):Int.fdiv (N:Int) (2 ^ (min ((j:Nat):Int).toNat IntKind.u64.bits))=((N / 2 ^ j:Nat):Int):=by
 rw [show min (((j:Nat):Int)).toNat IntKind.u64.bits=j by simp [IntKind.bits]; omega];exact Z9f _ _
theorem Z3y (N j:Nat):(((N / 2 ^ j:Nat):Int)).tmod 2=((N / 2 ^ j % 2:Nat):Int):=by
 generalize N / 2 ^ j=z;rw [Y1Q (by omega)]; omega
theorem ZeI (N:Nat):X4y (Xb N):=by
 induction N using Nat.strongRecOn with
 | _ N ih =>
   by_cases h:N=0
   . rw [h,ZL]; exact .inl rfl
   . rw [Z4D h];refine .inr ?_;have:=ih (N / 18446744073709551616) (by omega);cases hd:Xb (N / 18446744073709551616) with
     | nil =>
       have h0:=Z6L (N / 18446744073709551616);rw [hd] at h0;simp only [ofW] at h0;simp;omega
     | cons y s =>
       rw [hd] at this;rcases this with h|h
       . simp at h
       . simpa using h
theorem Zgj:∀ (l:List Nat) (k:Nat),ofW (l++List.replicate k 0)=ofW l
 | [], k => by
   rw [Y1e];exact Z6K fun j=>by rw [Y0b,Y3H]; split<;>rfl
 | x :: r,k=>by simp only [Y3O,ofW,Zgj r k]
theorem Zgk (x j:Nat):x ||| 2 ^ j≠0:=fun h=>by
 have:=congrArg (fun z=>Nat.testBit z j) h;simp [Y00] at this
theorem ZeJ (N i:Nat) (h:i<=4095) (L:Nat) (hL:L=max (Xb N).length (i / 64+1)) :
 let l:=Xb N++List.replicate (L-(Xb N).length) 0
 X1z l/\l.length=L/\i / 64<l.length/\∃ v,v=l.getD (i / 64) 0 ||| 2 ^ (i % 64)/\X5G (l.set (i / 64) v)=XG (N ||| 2 ^ i):=by
 intro l;have hw:X1z l:=fun x hx=>by
  rcases Y0h.1 hx with hx|hx
  . exact Z3l N x hx
  . rw [Y1q hx]; omega
 have hl:l.length=L:=by simp [l]; omega
 have hi:i / 64<l.length:=by omega
 refine⟨hw,hl,hi,_,rfl,?_⟩;have hm:i % 64<64:=Y1F _ (by omega);have hv:l.getD (i / 64) 0 ||| 2 ^ (i % 64)<18446744073709551616:=Y2n (n:=64) (hw.getD _) (Y1P (by omega) hm)
 have hc:X4y (l.set (i / 64) (l.getD (i / 64) 0 ||| 2 ^ (i % 64))):=by
  refine .inr ?_;rw [Y18,hl];by_cases he:L-1=i / 64
  . rw [he, Y0b, Y1p];simp only [Y6 hi,Y25,Y29];exact Zgk _ _
  . have hLd : L = (Xb N).length := by omega
    rw [Y0b,Y1p,Y8 (Y2L he),<- Y0b];have hl2:l=Xb N:=by simp [l,hLd]
    rw [hl2,hLd];rcases ZeI N with h0|h0
    . omega
    . exact h0
 rw [Zdu (hw.set _ hv) hc,ZjW hw hi hm,Zgj,Z6L,show 64*(i / 64)+i % 64=i by omega]
def X2y (N:Nat) (i:Int):Nat:=if 0<=i/\i<=4095 then N ||| 2 ^ i.toNat else N
theorem Zgl {N i:Nat} (h:N.testBit i=true):N ||| 2 ^ i=N:=by
 refine YE fun j=>?_;rw [Y00,YI];by_cases hj:i=j
 . subst hj; simp [h]
 . simp [hj]
theorem Z45 (N:Nat) (hN:(Xb N).length<=64) (i:Int):X7 Tryz.prog 101 [XG N,.val (.int .i64 i)] (· = XG (X2y N i)):=by
 refine Yp ok101 fun C hC=>?_;refine Zm ?_;refine Z9 ?_;refine Z5 rfl rfl rfl ?_;(refine go ?_;repeat' (apply B<;>intro hb<;>try cases hb))
 . refine Z8 rfl (Z2 N) ?_;rw [X2y,Y8 (by simp at hb;omega)]; rfl
 . refine Z8 rfl (Z2 N) ?_;rw [X2y,Y8 (by simp at hb;omega)]; rfl
 rename_i h0;have h1:0<=i:=by simp at h0; omega
 have h2:i<=4095:=by simp at hb; omega
 obtain⟨j,rfl⟩:∃ j:Nat,i=j:=⟨i.toNat,by omega⟩
 rw [X2y,Y6 ⟨h1,h2⟩,YZ];have hs:=Zgi N j h1 h2;rw [YZ] at hs;refine Qe hs ⟨⟨Z7 _,Yt⟩,Yt,Yt⟩ ?_;cases ht:N.testBit j with
 | true =>
   refine go ?_;refine Z8 rfl (Z2 N) ?_;rw [Zgl ht]; rfl
 | false =>
   have hdl:(X4 (Xb N)).length=(Xb N).length:=by simp [X4]
   obtain⟨hw,hl,hi,v,hv,hset⟩:=ZeJ N j (by omega) _ rfl;have hq:IntKind.i64.wrap ((j:Int).tdiv 64)=((j / 64:Nat):Int):=by
    rw [Y32 _ _ ⟨by omega,by omega,by omega⟩]; omega
   have hr:(j:Int).tmod 64=((j % 64:Nat):Int):=by
    rw [Y1Q (by omega)]; omega
   have hq1:IntKind.i64.wrap (((j / 64:Nat):Int)+1)=((j / 64+1:Nat):Int):=Y0v _ ⟨by omega,by omega⟩;have hmax:(if ((j / 64+1:Nat):Int)>(((X4 (Xb N)).length:Nat):Int) then ((j / 64+1:Nat):Int) else (((X4 (Xb N)).length:Nat):Int))=((max (Xb N).length (j / 64+1):Nat):Int):=by
    rw [hdl]; split<;>omega
   generalize max (Xb N).length (j / 64+1)=L at *;refine go ?_;rw [hq,hq1,hmax];refine ZH (Z9b (a:=L) (b:=L) rfl rfl (Y0m _) (by omega)) rfl rfl ?_;have hrep:List.replicate L (zpv [Value.int .u64 0])=X4 (List.replicate L 0):=by simp [X4,zpv,X3Z]
   rw [hrep];have hcopy:(X4 (Xb N)).take (X4 (List.replicate L 0)).length++(X4 (List.replicate L 0)).drop (X4 (Xb N)).length=X4 (Xb N++List.replicate (L-(Xb N).length) 0):=by
    have hle:(Xb N).length<=L:=by omega
    have e1:(X4 (List.replicate L 0)).length=L:=by simp [X4]
    rw [e1,YA (by rw [hdl]; exact hle),hdl];simp [X4,Y0r,List.drop_replicate]
   have hwl:∀ c∈X4 (Xb N),c.length=1:=fun c hc=>by obtain⟨x,_,rfl⟩:=Y0i.1 hc; rfl
   iterate 7 (first|refine st ?_|(apply B<;>intro hb<;>try cases hb))
   refine Qo (ZlG (k:=1) rfl rfl rfl hwl rfl) ?_;simp only;rw [hcopy];generalize Xb N++List.replicate (L-(Xb N).length) 0=ws at *;have hm64:j % 64<64:=Y1F _ (by omega);have hwn:(X4 ws).length=ws.length:=by simp [X4]
   have hel:(X4 ws).getD (j / 64) [] = [.val (.int .u64 (ws.getD (j / 64) 0:Nat))]:=by simp [X4,Y0b,hi]
   refine go ?_;rw [hq];refine Qr (ZF rfl rfl rfl (j / 64) rfl (by rw [hwn]; exact hi) rfl) ?_;refine Qr (Z1v rfl rfl (by rw [hwn]; exact hi) (by rw [hel]; rfl)) ?_;(first|refine st ?_|(apply B<;>intro hb<;>try cases hb));refine Qr (ZS rfl hr) ?_
   refine Qr (ZeE rfl rfl (by omega) (v:=((2 ^ (j % 64):Nat):Int)) (by
    rw [show min (((j % 64:Nat):Int)).toNat IntKind.u64.bits=j % 64 by simp [IntKind.bits]; omega];have:2 ^ (j % 64)<2 ^ 64:=Y1P (by omega) hm64;rw [Y49,show (2:Int) ^ (j % 64)=((2 ^ (j % 64):Nat):Int) by simp]
    exact Y0x _ ⟨Y1Y _,Y38.2 (show _<=18446744073709551615 by omega)⟩)) ?_
   refine Qr (ZS rfl (Y1H _ _ (hw.getD _) (show 2 ^ (j % 64)<2 ^ 64 from Y1P (by omega) hm64))) ?_;refine Qr (ZF rfl rfl rfl (j / 64) rfl (by rw [hwn]; exact hi) rfl) ?_;refine Qr (Z1Q rfl rfl rfl rfl rfl (by rw [hwn]; exact hi) (Y0m _)) ?_;rw [hel,show Xl [PV.val (Value.int .u64 (ws.getD (j / 64) 0:Nat))] 0 (PV.val (Value.int .u64 ((ws.getD (j / 64) 0 ||| 2 ^ (j % 64):Nat):Int))).cells = [.val (.int .u64 ((ws.getD (j / 64) 0 ||| 2 ^ (j % 64):Nat):Int))] from rfl];simp only;rw [Zam,<- hv];generalize ws.set (j / 64) v=w2 at *
   iterate 4 (first|refine st ?_|(apply B<;>intro hb<;>try cases hb))
   refine Za (Zj (k:=40) rfl rfl (Z7 w2)) ?_;refine go ?_;refine Z8 rfl (Z43 w2) ?_;exact hset
theorem Z3m {N:Nat} (h:N<18446744073709551616):(Xb N).length<=1:=by
 by_cases h0:N=0
 . rw [h0,ZL]; simp
 . rw [Z4D h0,Y2a h,ZL]; simp
end
section
open Go.RowKit
section
variable {P:Program} {C:Ctx} {Fr:Nat->Prop} {e:Env} {h:X2} {n:Nat} {F:XL} {φ:XO} {a:Act} {w:World} {K:Nat->Env->X2->Prop} {os:List Xs} {d:Option Nat} {Q:Exit->Nat->Env->X2->Prop}
theorem X2l.frame {f:FuncId} {b:Bx} {rest:List PV} {R:PV->Bx->Prop} (hs:X2l P f b rest R) (hpb:X1 b.elems) (hpr:X5 rest) {id:Nat} (hb:h id=some b) :
 XF P f n (.ptr id 0 0 :: rest) h fun n' r h'=>∃ b',n'=n/\h'=h.upd id b'/\r.pure/\X1 b'.elems/\R r b':=by
 refine⟨hs.1,fun C e F φ a w vs s hv=>(hs.run hpb hpr hb s hv).mono ?_⟩;rintro en w' ⟨v,r,b',F',rfl,⟨h1,h2,h3⟩,hvr,s'⟩;exact⟨v,r,n,_,F',φ,rfl,⟨b',rfl,rfl,h1,h2,h3⟩,hvr,s'⟩
theorem ZU {f:Operand} {args:List Operand} {g:FuncId} {caps as0 rest:List PV} {b:Bx} {id:Nat} {R:PV->Bx->Prop} (hs:X2l P g b rest R) (hf:ev e f=some (.fn g caps)) (ha:evs e args=some as0) (hr:as0++caps=.ptr id 0 0 :: rest) (hb:h id=some b) (hpb:X1 b.elems) (hpr:X5 rest)
 (hk:∀ r b',r.pure->X1 b'.elems->R r b'->Xr P os n (XC e d r) (h.upd id b') K):Xr P (⟨d,.call f args,none⟩ :: os) n e h K:=by
 refine Z10 hf ha (R:=fun n' r h'=>∃ b',n'=n/\h'=h.upd id b'/\r.pure/\X1 b'.elems/\R r b') (by rw [hr]; exact hs.frame hpb hpr hb) ?_;rintro n' r h' ⟨b',rfl,rfl,h1,h2,h3⟩;exact hk r b' h1 h2 h3
theorem Z1R {f nt:Nat} {ac:X6} {rs:List X2g} (hf:X3O P f nt ac rs) {b:Bx} {rest:List PV} {R:PV->Bx->Prop} (hn:rest.length+1<=nt) (hk:∀ C:Ctx,C.dom 1->aw P C ac (X6h rs fun _ r h'=>∃ b',h' 0=some b'/\r.pure/\X1 b'.elems/\R r b') 1 (XV (.ptr 0 0 0 :: rest)) (Xv [(0,b)])):X2l P f b rest R :=
 Z18 hf hn hk
theorem ZlK {rs:List X2g} {R:PV->Bx->Prop} {r:PV} {b':Bx} (hr:XZ rs e h=some r) (hp:r.pure) (hb:h 0=some b') (hpb:X1 b'.elems) (hR:R r b'):∃ r0 r,XZ rs e h=some r0/\LoP r0 r/\∃ b',h 0=some b'/\r.pure/\X1 b'.elems/\R r b' :=
 ⟨r,r,hr,.inl rfl,b',hb,hp,hpb,hR⟩
inductive X4X (id:Nat) (l:List (List PV)):PV->PV->Prop
 | pure (p:PV) (hp:p.pure):X4X id l p p
 | own:X4X id l (.own id) (.vec l false)
 | agg (xs ys:List PV) (hl:xs.length=ys.length) (h:∀ i,i<xs.length->X4X id l (xs.getD i pvu) (ys.getD i pvu)):X4X id l (.agg xs) (.agg ys)
 | tup (xs ys:List PV) (hl:xs.length=ys.length) (h:∀ i,i<xs.length->X4X id l (xs.getD i pvu) (ys.getD i pvu)):X4X id l (.tup xs) (.tup ys)
theorem X4X.rep {F':XL} {id:Nat} {l:List (List PV)} (hF:∀ x v,F x=some v->F' x=some v) (hown:∀ v,Rep F φ v (.own id)->Rep F' φ v (.vec l false)) {p q:PV} (hr:X4X id l p q):∀ {v:Value},Rep F φ v p->Rep F' φ v q:=by
 induction hr with
 | pure p hp=>exact fun h=>h.mono hF fun _ _ h=>h
 | own=>exact fun h=>hown _ h
 | agg xs ys hl _ ih =>
   intro v h;obtain⟨vs,rfl,h1,h2,h3⟩:=h.agg_inv;exact .agg vs ys (by rw [h1,hl]) (fun i hi=>h2 i (by rw [hl]; exact hi)) fun i hi=>ih i (by rw [hl]; exact hi) (h3 i (by rw [hl]; exact hi))
 | tup xs ys hl _ ih =>
   intro v h;obtain⟨vs,rfl,h1,h2⟩:=h.tup_inv;exact .tup vs ys (by rw [h1,hl]) fun i hi=>ih i (by rw [hl]; exact hi) (h2 i (by rw [hl]; exact hi))
theorem Z7b {k id:Nat} {b:Bx} {p q:PV} (hk:e k=some p) (hb:h id=some b) (hp:X1 b.elems) (hq:X4X id b.elems p q):Sub C n e h n (e.upd k q) (h.del id):=by
 rintro a w ⟨F,φ,s⟩;obtain⟨hlt,hr⟩:=s.env k _ hk;obtain⟨F',hx,s2,hr2⟩:=s.frzObj hb;refine⟨F',φ,{ s2 with env:=fun j p hj=>?_ }⟩;by_cases hjk:j=k
 . subst hjk; rw [Env.upd_same] at hj; cases hj; exact⟨hlt,hq.rep hx hr2 hr⟩
 . rw [Env.upd_ne _ _ hjk] at hj; exact s2.env j p hj
theorem Z4Y {ob i0 j0:Nat} {bo:Bx} (esz:Nat) (hp:0<esz) (hob:h ob=some bo) (hi0:i0<bo.elems.length) (hj0:j0<(bo.elems.getD i0 []).length) (hcell:(bo.elems.getD i0 []).getD j0 pvu=.vec [] true) (hz:0<bo.esz:=by exact Y0 rfl) :
 Sub C n e h (n+1) e ((h.upd n ⟨esz,[]⟩).upd ob ⟨bo.esz,bo.elems.set i0 ((bo.elems.getD i0 []).set j0 (.own n))⟩):=by
 rintro a w ⟨F,φ,s⟩;obtain⟨v,hv,fin⟩:=s.cell (q:=.own n) hob hi0 hj0 hz;rw [hcell] at hv;obtain⟨base,rfl⟩:∃ base,v=.slice base 0 0:=by
  rcases hv.vec_inv with⟨_,h⟩|⟨x,cap,esz',cs,h,_,_,hf,_⟩
  . exact⟨none,h⟩
  . exact⟨some x,by rw [h,hf rfl]; rfl⟩
 have hφn:=s.free n (Y0m n);have hno:ob≠n:=fun e1=>by
  obtain⟨_,o1,_⟩:=s.live ob bo hob;rw [e1,hφn] at o1; cases o1
 exact⟨F,_,fin (fun _ _ h=>h) (Z1b hφn ⟨base,esz,0,0⟩) (by rw [X2.upd_ne _ _ hno]; exact hob) ((s.allocNil (Y0m n) base esz hp).weaken fun i hi=>⟨by omega,by omega⟩) (.own n ⟨base,esz,0,0⟩ (by simp [X8]) hp)⟩
theorem Z7c {id:Nat} {b:Bx} {i0 j0:Nat} (hb:h id=some b) (hi0:i0<b.elems.length) (hj0:j0<(b.elems.getD i0 []).length) (hcell:(b.elems.getD i0 []).getD j0 pvu=.vec [] true) (esz:Nat) (hp:0<esz) (hn:id<n) (hz:0<b.esz:=by exact Y0 rfl) :
 Sub C n e h (n+1) e ((h.upd id ⟨b.esz,b.elems.set i0 ((b.elems.getD i0 []).set j0 (.own n))⟩).upd n ⟨esz,[]⟩):=by
 have hc:(h.upd id ⟨b.esz,b.elems.set i0 ((b.elems.getD i0 []).set j0 (.own n))⟩).upd n ⟨esz,[]⟩=(h.upd n ⟨esz,[]⟩).upd id ⟨b.esz,b.elems.set i0 ((b.elems.getD i0 []).set j0 (.own n))⟩:=by
  funext j;simp only [X2.upd];cases h1:Nat.beq j n<;>cases h2:Nat.beq j id<;>first|rfl|(have:=YH h1; have:=YH h2;omega)
 rw [hc];exact Z4Y esz hp hb hi0 hj0 hcell hz
theorem ZO {id:Nat} {b:Bx} {i0 j0:Nat} (hb:h id=some b) (hi0:i0<b.elems.length) (hj0:j0<(b.elems.getD i0 []).length) (hcell:(b.elems.getD i0 []).getD j0 pvu=.vec [] true) (esz:Nat) (hp:0<esz) (hn:id<n) (hz:0<b.esz:=by exact Y0 rfl) :
 X4m n e h (n+1) e ((h.upd id ⟨b.esz,b.elems.set i0 ((b.elems.getD i0 []).set j0 (.own n))⟩).upd n ⟨esz,[]⟩):=fun _=>Z7c hb hi0 hj0 hcell esz hp hn hz
theorem ZbW {X:Type} {m:Nat} (hdom:C.dom m) (A:X->Prop) (N:Nat) (L:X->List (Nat×PV)) (HL:X->List (Nat×Bx)) {x y:X6} (hm:m<=N) (h1:aw P C x (X3m (fun n e h=>∃ z,A z/\X50 e N (L z)/\X2N h N (HL z)) Q) n e h) (h2:∀ z,A z->aw P C y Q N (X1D (L z)) (Xv (HL z))):aw P C (.seq x y) Q n e h :=
 Zm (Z73 h1 fun ex n e h hq=>by
  cases ex with
  | normal=>obtain⟨z,ha,he,hh⟩:=hq; exact Z76 hdom (L z) (HL z) hm he hh (h2 z ha)
  | _=>exact hq)
def mv (k k':Nat):Nat->Nat:=fun i=>bif Nat.beq i k then k' else i
theorem Z3n {k k' m:Nat} (h:m<=k):∀ i,i<m->mv k k' i=i:=by
 intro i hi;have e1:Nat.beq i k=false:=Yy.2 fun hb=>by have:=YH hb; omega
 unfold mv;rw [e1]; rfl
theorem Zq {ρ:Nat->Nat} {HL:List (Nat×Bx)} (h:((HL.map Prod.fst).all fun x=>(HL.map Prod.fst).all fun y => !(Nat.beq (ρ x) (ρ y))||Nat.beq x y)=true):X3Q ρ HL:=by
 intro q hq q' hq' he;have h1:=YK.1 h q.1 (Y1D hq);have h2:=YK.1 h1 q'.1 (Y1D hq');rw [he] at h2;have e1:Nat.beq (ρ q'.1) (ρ q'.1)=true:=Y4l _;rw [e1] at h2;exact YH (by simpa using h2)
theorem Zf {HL:List (Nat×Bx)}:X3Q (fun i=>i) HL:=fun _ _ _ _ h=>h
def X2v (ρ:Nat->Nat) (D:Nat->Prop):List PV->List PV->Prop
 | [],[]=>True
 | a :: r,b :: s=>X1J ρ D a b/\X2v ρ D r s
 | _,_=>False
theorem X2v.get {ρ:Nat->Nat} {D:Nat->Prop}:∀ {l m:List PV},X2v ρ D l m->l.length=m.length/\∀ j,j<m.length->X1J ρ D (l.getD j pvu) (m.getD j pvu)
 | [],[],_=>⟨rfl,fun j hj=>by simp at hj⟩
 | a :: r, b :: s, h => by
   obtain⟨h1,h2⟩:=X2v.get h.2;refine⟨by simp [h1],fun j hj=>?_⟩;cases j with
   | zero=>exact h.1
   | succ j=>exact h2 j (by simpa using hj)
 | [],_ :: _,h=>h.elim
 | _ :: _,[],h=>h.elim
theorem Xw.single {ρ:Nat->Nat} {D:Nat->Prop} {esz:Nat} {l0 l:List PV} (h:X2v ρ D l0 l) (hl:l.length=esz):Xw ρ D ⟨esz,[l0]⟩ ⟨esz,[l]⟩:=by
 obtain⟨h1,h2⟩:=h.get;by_cases hz:esz=0
 . subst hz;obtain rfl:l = []:=YP hl;obtain rfl:l0 = []:=YP h1;exact .same _ ⟨Yt,Yt⟩
 refine .gen _ _ (Nat.pos_of_ne_zero hz) rfl rfl (fun i hi=>?_) fun i j hi hj=>?_
 . have : i = 0 := by simpa using hi
   subst this; exact h1
 . have : i = 0 := by simpa using hi
   subst this; exact h2 j (by rw [hl]; exact hj)
end
mutual
def PV.pureB:PV->Bool
 | .val _=>true
 | .agg l=>X2q l
 | .tup l=>X2q l
 | .vec l _=>X3a l
 | .cp l=>X2q l
 | .ptr _ _ _=>false
 | .own _=>false
 | .view _ _ _=>false
 | .sl _ _ _ _ _=>false
 | .mp _=>false
 | .fn _ l=>X2q l
def X2q:List PV->Bool
 | []=>true
 | p :: l=>p.pureB&&X2q l
def X3a:List (List PV)->Bool
 | []=>true
 | p :: l=>X2q p&&X3a l
end
mutual
theorem Z2N:∀ {p:PV},p.pureB=true->p.pure
 | .val _,_=>trivial
 | .agg l,h=>by simp only [PV.inn]; exact Z13 (by simpa [PV.pureB] using h)
 | .tup l,h=>by simp only [PV.inn]; exact Z13 (by simpa [PV.pureB] using h)
 | .vec l _,h=>by simp only [PV.inn]; exact ZV (by simpa [PV.pureB] using h)
 | .cp l,h=>by simp only [PV.inn]; exact Z13 (by simpa [PV.pureB] using h)
 | .ptr _ _ _,h=>by simp [PV.pureB] at h
 | .own _,h=>by simp [PV.pureB] at h
 | .view _ _ _,h=>by simp [PV.pureB] at h
 | .sl _ _ _ _ _,h=>by simp [PV.pureB] at h
 | .mp _,h=>by simp [PV.pureB] at h
 | .fn _ l,h=>by simp only [PV.inn]; exact Z13 (by simpa [PV.pureB] using h)
theorem Z13:∀ {l:List PV},X2q l=true->X5 l
 | [],_=>trivial
 | p :: l, h => by
   simp only [X2q,Y0k] at h;exact⟨Z2N h.1,Z13 h.2⟩
theorem ZV:∀ {l:List (List PV)},X3a l=true->X1 l
 | [],_=>trivial
 | p :: l, h => by
   simp only [X3a,Y0k] at h;exact⟨Z13 h.1,ZV h.2⟩
end
def KpF (F:XL) (A B:World):Prop:=(∀ x v,F x=some v->A.cell? x=some v->B.cell? x=some v)/\B.os=A.os/\B.tape=A.tape/\B.output=A.output/\A.heap.size<=B.heap.size
theorem KpF.trans {F:XL} {A B C:World} (h:KpF F A B) (k:KpF F B C):KpF F A C :=
 ⟨fun x v hx hv=>k.1 x v hx (h.1 x v hx hv),k.2.1.trans h.2.1,k.2.2.1.trans h.2.2.1,k.2.2.2.1.trans h.2.2.2.1,Y03 h.2.2.2.2 k.2.2.2.2⟩
theorem KpF.refl (F:XL) (A:World):KpF F A A:=⟨fun _ _ _ h=>h,rfl,rfl,rfl,Y0m _⟩
theorem KpF.grown {F:XL} {A B:World} {row:Option Nat} (hg:A.grownBy B row) (hrow:∀ r,row=some r->∃ o:Obj,A.heap[r]?=some o/\o.isCells=false):KpF F A B :=
 ⟨fun x v _ hv=>cell_kept hv hg hrow,hg.os,hg.tape,hg.output,hg.size⟩
def X4L (P:Program) (g:FuncId) (caps:List PV) {α:Type} (encs:α->List Value) (S Sp:List α->Prop) (M:Nat):Prop :=
 X1K P g/\∀ (F:XL) (w:World) (lb:Array Value) (FN:Fence) (m:Nat),XD FN m->Holds F w->X27 F XP lb caps->SeqStopsK FN m P g lb (fun x=>(encs x).toArray) (KpF F) S Sp M w
def Ctx.apart (h:X2) (φ:XO) (F:XL) (w:World) (nt:Nat):Ctx:=⟨w,fun k=>∃ i b loc,h i=some b/\φ i=some loc/\loc.has k,F,nt,φ⟩
section
variable {P:Program} {C:Ctx} {Fr Fr':Nat->Prop} {e e':Env} {h h':X2} {F F':XL} {φ φ':XO} {a a':Act} {w w':World}
theorem St'.owned (s:St' C Fr e h F φ a w) {nt k:Nat} (hk:(Ctx.apart h φ F w nt).G k):(C.w0.heap.size<=k \/ C.G k)/\((∃ cells t,w.heap[k]?=some (.cells cells t (0,0))) \/ ∃ es t,w.heap[k]?=some (.map es t)):=by
 obtain⟨i,b,loc,hi,hl,hc⟩:=hk;obtain⟨loc',h1,h2,h3⟩:=s.live i b hi;obtain rfl:loc'=loc:=by rw [h1] at hl; simpa using hl
 refine⟨(h3 k hc).1,?_⟩;exact h2.there hc
theorem St'.enter (s:St' C Fr e h F φ a w):St' (Ctx.apart h φ F w C.nt) Fr e h F φ { a with defers := [] } w:=by
 refine { nt:=s.nt,glob:=s.glob,marks:=X2b.nil rfl,loc0:=fun i x hx=>hx,free:=s.free,env:=s.env,froz:=s.froz,ext:=fun _ _ h=>h,old:=fun _ _ _=>rfl,os:=rfl,tape:=rfl,output:=rfl,size:=Y0m _,kept:=fun _ _ _=>rfl,live:=fun id b hb=>?_,sep:=s.sep };obtain⟨loc,h1,h2,h3⟩:=s.live id b hb;exact⟨loc,h1,h2,fun k hk=>⟨.inr ⟨id,b,loc,hb,h1,hk⟩,(h3 k hk).2⟩⟩
theorem St'.back (s:St' C Fr e h F φ a w) {nt:Nat} (s':St' (Ctx.apart h φ F w nt) Fr' e' h' F' φ' a' w'):St' C Fr' e h' F' φ' a w':=by
 have hne:∀ k,w.heap[k]?=some (.deferred (some []))->¬ (Ctx.apart h φ F w nt).G k:=fun k hk hg=>by
  rcases (s.owned hg).2 with⟨cells,t,hc⟩|⟨es,t,hc⟩
  . rw [hk] at hc; cases hc
  . rw [hk] at hc; cases hc
 refine { nt := s.nt, glob := s'.glob, marks := s.marks.mono fun k hk => ?_, loc0 := fun i x hx => s'.loc0 i x (s.loc0 i x hx), free := s'.free, env := fun k p hp => ⟨(s.env k p hp).1, (s.env k p hp).2.mono s'.ext s'.loc0⟩, froz := s'.froz, ext := fun x v hx => s'.ext _ _ (s.ext x v hx),
          old:=fun x hx hg=>?_,os:=s'.os.trans s.os,tape:=s'.tape.trans s.tape,output:=s'.output.trans s.output,size:=Y03 s.size s'.size,kept:=fun k hk hg=>?_,live:=fun i b hi=>?_,sep:=s'.sep }
 . exact (s'.kept k (YF.1 hk).1 (hne k hk)).trans hk
 . have hx2 : x.block < w.heap.size := YY hx s.size;rw [s'.old x hx2 fun hg'=>(s.owned hg').1.elim (fun h1=>absurd hx (Y3j.2 h1)) hg];exact s.old x hx hg
 . have := s'.kept k (YY hk s.size) fun hg' => (s.owned hg').1.elim (fun h1 => absurd hk (Y3j.2 h1)) hg;exact this.trans (s.kept k hk hg)
 . obtain ⟨loc, h1, h2, h3⟩ := s'.live i b hi;refine⟨loc,h1,h2,fun k hk=>⟨?_,(h3 k hk).2⟩⟩;rcases (h3 k hk).1 with h4|h4
   . exact .inl (Y03 s.size h4)
   . exact (s.owned h4).1
theorem St'.apart_keeps (s:St' C Fr e h F φ a w) {nt:Nat} (s':St' (Ctx.apart h φ F w nt) Fr' e' h' F' φ' a' w') (hnm:∀ i b,h i=some b->0<b.esz) (B:Nat):KeepsFrom B w w':=by
 refine⟨s'.size,fun k o _ hk ho=>?_⟩;refine (s'.kept k (YF.1 hk).1 fun hg=>?_).trans hk;obtain⟨i,b,loc,hi,hl,hc⟩:=hg;obtain⟨loc',h1,h2,h3⟩:=s.live i b hi;obtain rfl:loc'=loc:=by rw [h1] at hl; simpa using hl
 obtain⟨hc0,x,hx,rfl⟩:=hc;obtain⟨y,hy,_,cells,t,hg,_⟩:=(h2.cellsB (hnm i b hi)).room hc0;obtain rfl:y=x:=by rw [hy] at hx; simpa using hx
 rw [hk] at hg;cases hg;cases ho
theorem St'.apart_kp (s:St' C Fr e h F φ a w) {nt:Nat} (s':St' (Ctx.apart h φ F w nt) Fr' e' h' F' φ' a' w') {F0:XL} (h0:∀ x v,F0 x=some v->F x=some v):KpF F0 w w' :=
 ⟨fun x v hx _=>(s'.froz x v (s'.ext x v (h0 x v hx))).2.2,s'.os,s'.tape,s'.output,s'.size⟩
theorem Zgm {N nt:Nat} (hfr:∀ i,N<=i->φ i=none):(Ctx.apart h φ F w nt).dom N:=hfr
end
def X7y (e:Env):List Nat->List Value->Env
 | p :: ps,v :: vs=>X7y (e.upd p (.val v)) ps vs
 | _,_=>e
def X5e (a:Act):List Nat->List Value->Act
 | p :: ps,v :: vs=>X5e (a.put (some p) v) ps vs
 | _,_=>a
def X6U (e:Env):List (Nat×Operand)->Option Env
 | []=>some e
 | (d, x) :: l => match ev e x with
   | some p=>X6U (e.upd d p) l
   | none=>none
def X6v (a:Act):List (Nat×Operand)->Act
 | []=>a
 | (d,x) :: l=>X6v (a.put (some d) (a.eval x)) l
theorem Z7d:∀ (ps:List Nat) (vs:List Value) (a:Act),(X5e a ps vs).defers=a.defers
 | [],_,_=>rfl
 | _ :: _,[],_=>rfl
 | p :: ps,v :: vs,a=>by simp only [X5e]; exact Z7d ps vs _
theorem Zan:∀ (ps:List Nat) (vs:List Value) (a:Act),(X5e a ps vs).tmps=(ps.zip vs).foldl (fun t (p,v)=>t.setIfInBounds p v) a.tmps
 | [],_,_=>rfl
 | _ :: _,[],_=>rfl
 | p :: ps,v :: vs,a=>by simp only [X5e,List.zip_cons_cons,Y1b]; exact Zan ps vs _
section
variable {P:Program} {C:Ctx} {Fr Fr':Nat->Prop} {h h':X2} {F F':XL} {φ φ':XO} {w w':World}
theorem St'.params:∀ {ps:List Nat} {vs:List Value} {e:Env} {a:Act},St' C Fr e h F φ a w->(∀ p∈ps,p<C.nt)->St' C Fr (X7y e ps vs) h F φ (X5e a ps vs) w
 | [],_,_,_,s,_=>s
 | _ :: _,[],_,_,s,_=>s
 | p :: ps,v :: vs,e,a,s,hps=>(s.put (hps p (by simp)) (.val v)).params fun q hq=>hps q (by simp [hq])
theorem St'.moves:∀ {l:List (Nat×Operand)} {e e':Env} {a:Act},St' C Fr e h F φ a w->(∀ q∈l,q.1<C.nt)->X6U e l=some e'->St' C Fr e' h F φ (X6v a l) w
 | [],e,e',a,s,_,he=>by cases he; exact s
 | (d, x) :: l, e, e', a, s, hl, he => by
   simp only [X6U] at he
   split at he
   . rename_i p hp;exact (s.put (hl _ (Y0t ..)) (s.eval hp)).moves (fun q hq=>hl q (by simp [hq])) he
   . cases he
theorem Zdw {FN:Fence} {m:Nat} (hok:XD FN m) {ops:Array Oper} {K:Act->World->Prop}:∀ {l:List Oper} {ms:List (Nat×Operand)} {a:Act},X35 l=some ms->K (X6v a ms) w->wpListIn FN m P ops (Exit.then K (fun _ _ _=>False)) l a w
 | [], ms, a, hc, hk => by
   obtain rfl : []=ms:=by simpa [X35] using hc
   exact hk
 | o :: r, ms, a, hc, hk => by
   have key:∀ (x:Operand) (d:Nat) (l':List (Nat×Operand)) (op:AOp),cOp P o=some op->execOp a.eval o=pure (.value (a.eval x))->o.guard=none->o.dst=some d->X35 r=some l'->ms=(d,x) :: l'->wpListIn FN m P ops (Exit.then K (fun _ _ _=>False)) (o :: r) a w:=by
    intro x d l' op hop hex hg hd hr hms;subst hms;simp only [wpListIn];rw [Y6 (by simp [Region.wanted,hg])];refine⟨fun f _=>hok.fn f,?_⟩;rw [Y3g FN.round a.eval o (Z3h hop),hex];have:=Zdw hok (ops:=ops) (a:=a.put (some d) (a.eval x)) hr hk;rw [<- hd] at this;exact this
   simp only [X35] at hc
   split at hc
   . rename_i x d l' ho hg hd hr;exact key x d l' (.mov x) (by simp [cOp,ho]) (by simp [execOp,ho]) hg hd hr (by simpa using hc.symm)
   . rename_i x d l' ho hg hd hr;exact key x d l' (.mov x) (by simp [cOp,ho]) (by simp [execOp,ho]) hg hd hr (by simpa using hc.symm)
   . cases hc
theorem ZlL {FN:Fence} {m:Nat} (hok:XD FN m) {K:Act->World->Prop} {c:Code} {ms:List (Nat×Operand)} {a:Act} (hc:X6P c=some ms) (hk:K (X6v a ms) w):c.wpIn FN m P (Exit.then K (fun _ _ _=>False)) a w:=by
 unfold X6P at hc
 split at hc
 . cases hc;exact wpIn_skip hk
 . exact Y3J (Zdw hok hc hk)
 . cases hc
end
def X6F {β:Type} (B:Exit->β->Prop) (m N:Nat) (L:List (Nat×PV)) (HL:β->List (Nat×Bx)):Exit->Nat->Env->X2->Prop :=
 fun ex _ _ h'=>(ex=.normal \/ ex=.ret \/ ∃ id,ex=.exit id)/\∃ z ρ,B ex z/\(∀ i,i<m->ρ i=i)/\X3Q ρ (HL z)/\X3r ρ (X1D L) N L/\X1o ρ h' N (HL z)
theorem Z46 {FN:Fence} {m:Nat} (h:XD FN m) (l k:Nat):XD (FN.inRound l) k:=by
 refine⟨h.fn,h.depth,fun P f args w R hc=>?_⟩;obtain⟨h1,h2⟩:=h.calls P f args w R hc;exact CallsIn.inRound l ⟨h1,fun cs _=>h2 cs fun d hd=>by rw [h.depth] at hd; cases hd⟩
theorem ZbX {FN:Fence} {m:Nat} (h:XD FN m) (k:Nat):XD FN k:=by
 refine⟨h.fn,h.depth,fun P f args w R hc=>?_⟩;obtain⟨h1,h2⟩:=h.calls P f args w R hc;exact⟨h1,fun cs _=>h2 cs fun d hd=>by rw [h.depth] at hd; cases hd⟩
theorem Ziz {FN:Fence} {m:Nat} (hd:FN.depth=none) (k:Nat) {P:Program} {c:Code} {Q:Exit->Act->World->Prop} {a:Act} {w:World} (h:c.wpIn FN k P Q a w):c.wpIn FN m P Q a w :=
 fun b kk cs hro hb _=>h b kk cs hro hb fun d hd'=>by rw [hd] at hd'; cases hd'
theorem World.grownBy_refl (W:World):W.grownBy W none:=⟨rfl,rfl,rfl,Y0m _,fun _ _ _=>rfl⟩
section
variable {P:Program} {C:Ctx} {e:Env} {h:X2} {n:Nat} {Q:Exit->Nat->Env->X2->Prop}
theorem Z2v {α X:Type} {m0:Nat} (hdom:C.dom m0) {f:Operand} {ps:List Nat} {asg:List (Nat×Operand)} {body:X6} {g:FuncId} {caps:List PV} {encs:α->List Value} {S Sp:List α->Prop} {M:Nat} (L:List (Nat×PV)) (HL:X->List (Nat×Bx))
 (hf:ev (X1D L) f=some (.fn g caps)) (hp:X5 caps) (hit:X4L P g caps encs S Sp M) (henc:∀ x,(encs x).length=ps.length)
 (B:Exit->List α->X->Prop) (N:Nat) (hm:m0<=N) (z0:X) (h0:B .normal [] z0) (hs0:Sub C n e h N (X1D L) (Xv (HL z0))) (hnm:∀ z,∀ q∈HL z,0<q.2.esz)
 (e2:α->Env) (he2:∀ x,X6U (X7y (X1D L) ps (encs x)) asg=some (e2 x))
 (round:∀ (C2:Ctx),C2.dom N->∀ pre x z,B .normal pre z->pre.length<M->aw P C2 body (X6F (fun ex z'=>B ex (pre ++ [x]) z') m0 N L HL) N (e2 x) (Xv (HL z)))
 (done:∀ xs z,S xs->B .normal xs z->Q .normal N (X1D L) (Xv (HL z)))
 (stop:∀ ex pre z,Sp pre->B ex pre z->(ex=.ret \/ ∃ id,ex=.exit id)->Q ex N (X1D L) (Xv (HL z))):aw P C (.range f ps asg body) Q n e h:=by
 intro hmx FN m hokl c hc a w hs;obtain⟨hok,hlo⟩:=hokl;have:∃ ps' cg cb,c=.rangeFunc f ps' cg cb/\ps'.toList=ps/\X6P cg=some asg/\Xu P C.nt cb=some body/\(∀ p∈ps,p<C.nt)/\∀ q∈asg,q.1<C.nt:=by
  unfold Xu at hc
  split at hc<;>first
   | (simp at hc; done)
   | (split at hc
      . split at hc
        . rename_i hall;simp only [Y2l,X6.range.injEq] at hc;obtain⟨rfl,rfl,rfl,rfl⟩:=hc;simp only [Y0k,YK,Y0n] at hall;exact⟨_,_,_,rfl,rfl,by assumption,by assumption,hall.1,hall.2⟩
        . simp at hc
      . simp at hc)
   | ((repeat' (split at hc))<;>simp at hc; done)
 obtain⟨ps',cg,cb,rfl,rfl,hcg,hcb,hpl,hal⟩:=this;obtain⟨F1,φ1,s1⟩:=hs0 a w hs;obtain⟨lb,hlb,hlz,hlr⟩:=(s1.eval hf).fn_inv;have hrep:X27 F1 XP lb caps:=⟨hlz,fun i hi=>(hlr i hi).pure (ZM hp i)⟩
 obtain⟨⟨fn,hfn,hname,hbody⟩,hcon⟩:=hit;have eg:∀ args w,(callFunc g args).run P w=.ok (.enter g args) w:=fun args w=>by
  have h1 : ¬ fn.name = "runtime.NumGoroutine" := by simpa using hname
  have h2:¬ fn.body=none:=fun h=>by rw [h] at hbody; simp at hbody
  simp [callFunc,hfn,h1,h2]
 have hcon':∀ k,SeqStopsK FN k P g lb (fun x=>(encs x).toArray) (KpF F1) S Sp M w:=fun k=>hcon F1 w lb FN k (ZbX hok k) ⟨s1.froz,s1.glob⟩ hrep;have hmk:∀ d∈a.defers,∀ D,d={ target:=.collected D,args := #[] }->D<w.heap.size:=fun d hd D hD=>by
  obtain⟨D1,e1,_,e3⟩:=s1.marks.all d hd;rw [e1] at hD;have:D1=D:=by simpa using hD
  rw [<- this];exact (YF.1 e3).1
 let I:List α->World->Prop:=fun pre W=>∃ z,B .normal pre z/\∃ F φ,(∀ x v,F1 x=some v->F x=some v)/\St' C (fun i=>N<=i) (X1D L) (Xv (HL z)) F φ a W
 let Ix:Code->List α->World->Prop:=fun c pre W=>∃ ex z,((c=.ret/\ex=.ret) \/ ∃ id,c=.exit id/\ex=.exit id)/\B ex pre z/\∃ F φ,St' C (fun i=>N<=i) (X1D L) (Xv (HL z)) F φ a W
 have hnm':∀ z i b,Xv (HL z) i=some b->0<b.esz:=fun z i b hb=>hnm z (i,b) (Z1r hb);have turn:∀ {W W':World} {row:Option Nat} {F:XL} {φ:XO} {hh:X2},St' C (fun i=>N<=i) (X1D L) hh F φ a W->(∀ i b,hh i=some b->0<b.esz)->W.grownBy W' row->(∀ r,row=some r->w.heap.size<=r/\∃ o:Obj,W.heap[r]?=some o/\o.isCells=false)->St' C (fun i=>N<=i) (X1D L) hh F φ a W':=by
  intro W W' row F φ hh s hnm hg hr;refine s.turned hg (fun r he=>⟨Y03 s1.size (hr r he).1,(hr r he).2⟩) (.inl hnm) rfl ⟨s.marks.nd,fun d hd=>?_⟩;obtain⟨D,e1,e2,e3⟩:=s.marks.all d hd;refine⟨D,e1,e2,?_⟩;have:=hmk d hd D e1;rw [hg.block D (YF.1 e3).1 (fun he=>by have:=(hr D he.symm).1;omega)];exact e3
 have hI:OwnFrom w.heap.size I:=by
  rintro pre W W' row ⟨z,hB,F,φ,hF,s⟩ hg hr;exact⟨z,hB,F,φ,hF,turn s (hnm' z) hg hr⟩
 have hIx:∀ c,OwnFrom w.heap.size (Ix c):=by
  rintro c pre W W' row ⟨ex,z,hc,hB,F,φ,s⟩ hg hr;exact⟨ex,z,hc,hB,F,φ,turn s (hnm' z) hg hr⟩
 have hI0:I [] w:=⟨z0,h0,F1,φ1,fun _ _ h=>h,s1⟩
 have hact:∀ x,({ tmps:=(ps'.zip (encs x).toArray).foldl (fun t (p,v)=>t.setIfInBounds p v) a.tmps,defers := [] }:Act)=X5e { a with defers := [] } ps'.toList (encs x):=fun x=>by
  have h1:=Zan ps'.toList (encs x) { a with defers := [] };have h2:=Z7d ps'.toList (encs x) { a with defers := [] };have h3:(ps'.zip (encs x).toArray).foldl (fun t (p,v)=>t.setIfInBounds p v) a.tmps=(ps'.toList.zip (encs x)).foldl (fun t (p,v)=>t.setIfInBounds p v) a.tmps:=by
   rw [<- Y4g,Array.toList_zip]
  rw [h3];generalize X5e { a with defers := [] } ps'.toList (encs x)=b at h1 h2;obtain⟨bt,bd⟩:=b;simp only at h1 h2;rw [h1,h2]
 let Ax:α->Act->World->Prop:=fun x a' _=>a'=X6v (X5e { a with defers := [] } ps'.toList (encs x)) asg
 have hassign:∀ (k l:Nat) (pre:List α) (x:α) (W:World) (K:Act->World->Prop),I pre W->(∀ a' W',KeepsFrom w.heap.size W W'->KpF F1 W W'->I pre W'->Ax x a' W'->K a' W') ->
  cg.wpIn (FN.inRound l) k P (Exit.then K (fun _ _ _=>False)) { tmps:=(ps'.zip (encs x).toArray).foldl (fun t (p,v)=>t.setIfInBounds p v) a.tmps,defers := [] } W:=by
  intro k l pre x W K hi hK;rw [hact];exact ZlL (Z46 hok l k) hcg (hK _ _ (KeepsFrom.refl _ _) (KpF.refl _ _) hi rfl)
 have hround:∀ (k l:Nat) (pre:List α) (x:α) (a':Act) (W:World),(∃ r,W.heap[l]?=some (.loop r))->I pre W->Ax x a' W->pre.length<M->cb.wpIn (FN.inRound l) k P (ownPostG w.heap.size (KpF F1) I Ix (pre ++ [x]) W) a' W:=by
  rintro k l pre x a' W ⟨r,hl⟩ ⟨z,hB,F,φ,hF,s⟩ rfl hlen;have s3:=(s.enter.params (ps:=ps'.toList) (vs:=encs x) hpl).moves hal (he2 x);have hlo2:X4P (FN.inRound l) (Ctx.apart (Xv (HL z)) φ F W C.nt):=by
   intro l' hl';obtain rfl:l=l':=by simpa [Fence.inRound] using hl'
   refine⟨⟨r,hl⟩,fun hg=>?_⟩;rcases (s.owned hg).2 with⟨cells,t,hc⟩|⟨es,t,hc⟩
   . rw [hl] at hc; cases hc
   . rw [hl] at hc; cases hc
  refine Y2C (round _ (Zgm s.free) pre x z hB hlen hmx (FN.inRound l) k ⟨Z46 hok l k,hlo2⟩ cb hcb _ W ⟨F,φ,s3⟩) ?_;rintro ex a3 W3 ⟨n',e',h',⟨hex,z',ρ,hB',hρ,hinj,hEq,hHq⟩,F',φ',s4⟩;obtain ⟨φ'',s5⟩ := (s.back s4).ren ρ hEq.mem hHq.mem hinj hdom hm hρ;have hF':∀ x v,F1 x=some v->F' x=some v:=fun x v hx=>s4.ext x v (hF x v hx);rcases hex with rfl|rfl|⟨id,rfl⟩
  . exact ⟨s.apart_keeps s4 (hnm' z) _,s.apart_kp s4 hF,z',hB',F',φ'',hF',s5⟩
  . exact ⟨s.apart_keeps s4 (hnm' z) _,.ret,z',.inl ⟨rfl,rfl⟩,hB',F',φ'',s5⟩
  . exact ⟨s.apart_keeps s4 (hnm' z) _,.exit id,z',.inr ⟨id,rfl,rfl⟩,hB',F',φ'',s5⟩
 have hKb:∀ (W:World) (l:Nat) (o o':Obj),w.heap.size<=l->W.heap[l]?=some o->o.isCells=false->o.isWalk=false->KpF F1 W (W.putObj l o'):=fun W l o o' _ hl ho _=>KpF.grown (grownBy_putObj' W l o') fun r hr=>by cases hr; exact⟨o,hl,ho⟩
 have hps:∀ x,((encs x).toArray).size=ps'.size:=fun x=>by have:=henc x; simpa using this
 have hfin:∀ (a':Act) (c:Code) (ex:Exit) (W:World),((c=.ret/\ex=.ret) \/ ∃ id,c=.exit id/\ex=.exit id)->X3J C Q ex a' W->∀ k,c.wpIn FN k P (X3J C Q) a' W:=by
  rintro a' c ex W (⟨rfl,rfl⟩|⟨id,rfl,rfl⟩) hq k
  . exact wpIn_ret hq
  . exact wpIn_exit hq
 refine Ziz hok.depth (m+1) ?_;cases hro:FN.round with
 | none =>
   have hnew:∀ (D:Nat) {W:World} {F:XL} {φ:XO} {hh:X2},w.heap.size<=D->W.heap[D]?=some (.deferred (some []))->St' C (fun i=>N<=i) (X1D L) hh F φ a W->St' C (fun i=>N<=i) (X1D L) hh F φ { a with defers:={ target:=.collected D,args := #[] } :: a.defers } W:=by
    intro D W F φ hh hD hd s;refine s.turned (World.grownBy_refl W) (fun r hr=>by cases hr) (.inr fun r es t hr=>by cases hr) rfl ⟨Y2Z.2 ⟨fun hin=>?_,s.marks.nd⟩,fun d hd'=>?_⟩
    . have:=hmk _ hin D rfl; omega
    . rcases YD.1 hd' with rfl | hd'
      . exact⟨D,rfl,Y03 s1.size hD,hd⟩
      . exact s.marks.all d hd'
   refine wpIn_rangeFunc_ownH hro (by omega) hlb (hok.fn g) eg (hcon' _) (fun h k=>h.trans k) hKb (Below.refl _ _) hps I Ix hI hIx hI0 Ax (fun x a' _ W W' row h _ _=>h) (fun l=>hassign _ l) (fun l pre x a' W _ hl hi hx hlen=>hround _ l pre x a' W hl hi hx hlen) ?_ ?_
   . rintro D xs W hD hS ⟨z, hB, F, φ, _, s⟩ hd;exact⟨N,_,_,done xs z hS hB,F,φ,hnew D hD hd s⟩
   . rintro D c pre W hD hS ⟨ex, z, hcx, hB, F, φ, s⟩ hd;refine hfin _ c ex W hcx ⟨N,_,_,stop ex pre z hS hB ?_,F,φ,hnew D hD hd s⟩ _;rcases hcx with⟨_,h⟩|⟨id,_,h⟩
     . exact .inl h
     . exact .inr ⟨id,h⟩
 | some l₀ =>
   obtain⟨⟨r₀,hr₀⟩,hg₀⟩:=hlo l₀ hro;have hw₀:w.heap[l₀]?=some (.loop r₀):=(s1.kept l₀ (YF.1 hr₀).1 hg₀).trans hr₀;refine wpIn_rangeFunc_ownN hro hw₀ (by omega) hlb (hok.fn g) eg (hcon' _) (fun h k=>h.trans k) hKb (Below.refl _ _) hps I Ix hI hIx hI0 Ax (fun x a' _ W W' row h _ _=>h) (fun l=>hassign _ l) (fun l pre x a' W _ hl hi hx hlen=>hround _ l pre x a' W hl hi hx hlen) ?_ ?_
   . rintro xs W hS ⟨z, hB, F, φ, _, s⟩;exact⟨N,_,_,done xs z hS hB,F,φ,s⟩
   . rintro c pre W hS ⟨ex, z, hcx, hB, F, φ, s⟩;refine hfin _ c ex W hcx ⟨N,_,_,stop ex pre z hS hB ?_,F,φ,s⟩ _;rcases hcx with⟨_,h⟩|⟨id,_,h⟩
     . exact .inl h
     . exact .inr ⟨id,h⟩
end
def X1A (op:AOp) (e:Env):Option PV :=
 match op with
 | .mov x=>ev e x
 | .bin op .num x y => match ev e x, ev e y with
   | some (.val a),some (.val b)=>(X53 op a b).map .val
   | _,_=>none
 | .una op x => match ev e x with
   | some p=>X6T op p
   | none=>none
 | .faddr off x => match ev e x with
   | some (.cp l)=>some (.cp (l.drop off))
   | _=>none
 | .load false 1 x => match ev e x with
   | some (.cp (p :: _))=>some p
   | _=>none
 | .len x => match ev e x with
   | some (.vec l _)=>some (.val (.int .i64 l.length))
   | _=>none
 | .iaddr esz x i => match ev e x, ev e i with
   | some (.vec l _), some (.val (.int _ n)) => if 0 <= n /\ n < (l.length : Int) then
      (if (l.getD n.toNat []).length=esz then some (.cp (l.getD n.toNat [])) else none) else none
   | _,_=>none
 | _=>none
section
variable {P:Program} {F:XL} {a:Act} {w:World} {e:Env} {nt:Nat}
structure X2T (nt:Nat) (F:XL) (e:Env) (a:Act):Prop where
 sz:a.tmps.size=nt
 nd:a.defers = []
 env:∀ k p,e k=some p->k<nt/\Rep F XP (a.tmps.getD k undef) p
theorem X2T.eval (s:X2T nt F e a) (hF:Holds F w) {x:Operand} {p:PV} (hx:ev e x=some p):Rep F XP (a.eval x) p:=by
 cases x with
 | tmp t=>exact (s.env t p (by simpa [ev] using hx)).2
 | const v => obtain rfl : X3Z v = p := by simpa [ev] using hx
              exact Z2s v
 | global g =>
   simp only [ev] at hx
   split at hx
   . cases hx; exact .val _
   . rename_i v l hg;cases hx;have hlen:(zpv (v :: l)).length=(v :: l).length:=by simp [zpv]
     refine .cp ⟨g,0,none⟩ (zpv (v :: l)) (fun j=>(v :: l).getD j undef) rfl (fun j hj=>?_) (fun j hj=>?_)
     . have hj' : j < (v :: l).length := by rw [<- hlen]; exact hj
       have e1:(X3u g)[j]?=some ((v :: l).getD j undef):=by rw [hg,Y0b,Y0c hj']; rfl
       have:=hF.2 g j _ e1;rw [Y15];exact this
     . have hj' : j < (v :: l).length := by rw [<- hlen]; exact hj
       have e2:(zpv (v :: l)).getD j pvu=X3Z ((v :: l).getD j undef):=by
        simp only [zpv,Y0b,Y0y,Y0c hj',Y1i,Y29]
       rw [e2];exact Z2s _
 | func f => obtain rfl : _ = p := by simpa [ev] using hx
             exact .fn f #[] [] rfl (fun i hi=>absurd hi (by simp))
theorem X2T.put (s:X2T nt F e a) {d:Nat} {v:Value} {p:PV} (hd:d<nt) (hr:Rep F XP v p):X2T nt F (e.upd d p) (a.put (some d) v):=by
 refine⟨by simp [Act.put,s.sz],s.nd,fun k q hq=>?_⟩;simp only [Act.put];rw [Z1c _ _ _ _ (by rw [s.sz]; exact hd)];by_cases hk:k=d
 . subst hk;rw [Env.upd_same] at hq;obtain rfl:p=q:=by simpa using hq
   simpa using ⟨hd,hr⟩
 . rw [Env.upd_ne _ _ hk] at hq;simpa [hk] using s.env k q hq
theorem X2T.putO (s:X2T nt F e a) {d:Option Nat} {v:Value} {p:PV} (hd:X2O nt d=true) (hr:Rep F XP v p):X2T nt F (XC e d p) (a.put d v):=by
 cases d with
 | none=>exact s
 | some d=>exact s.put (by simpa [X2O] using hd) hr
theorem ZbY {o:Oper} {op:AOp} (hc:cOp P o=some op) (s:X2T nt F e a) (hF:Holds F w) {p:PV} (hq:X1A op e=some p):∃ val,(execOp a.eval o).run P w=.ok (.value val) w/\Rep F XP val p:=by
 unfold cOp at hc
 split at hc
 case h_1 x ho =>
  cases hc;exact⟨_,by simp [execOp,ho],s.eval hF hq⟩
 case h_2 x ho =>
  cases hc;exact⟨_,by simp [execOp,ho],s.eval hF hq⟩
 case h_4 bop t x y yt ho =>
  have key:op=.bin bop .num x y->∃ val,(execOp a.eval o).run P w=.ok (.value val) w/\Rep F XP val p:=by
   rintro rfl;simp only [X1A] at hq
   split at hq
   case h_2=>cases hq
   rename_i va vb hx hy;have ha:=(s.eval hF hx).val_inv;have hb:=(s.eval hF hy).val_inv;cases hs:X53 bop va vb with
   | none=>simp [hs] at hq
   | some r =>
     obtain rfl:PV.val r=p:=by simpa [hs] using hq
     have hrun:=Zda (P:=P) (w:=w) (t:=t) (x:=x) (y:=y) hs;have hex:execOp a.eval o=(do pure (.value (<- (do eqGuard bop t x y (a.eval x) (a.eval y); binOp bop t (a.eval x) (a.eval y):Sem Value)))):=by simp only [execOp,ho]
     exact⟨r,by rw [hex,ha,hb,Y1a,hrun]; rfl,.val _⟩
  (repeat' (split at hc))<;>first|(cases hc; exact key rfl)|(cases hc; simp [X1A] at hq; done)|(cases hc; done)
 case h_5 uop t x ho =>
  cases hc;simp only [X1A] at hq
  split at hq
  case h_2=>cases hq
  rename_i q hx;obtain⟨val,hrun,hrep⟩:=Zdb (P:=P) (w:=w) (s.eval hF hx) hq;exact⟨val,by simp [execOp,ho,hrun],hrep⟩
 case h_11 t x ho =>
  have hex:execOp a.eval o=(do pure (.value (<- Instr.loadAt t (a.eval x)))):=by simp [execOp,ho]
  cases hl:X1l P t with
  | none=>simp [hl] at hc
  | some l =>
    obtain rfl:AOp.load l.1 l.2 x=op:=by simpa [hl] using hc
    obtain⟨agg,size⟩:=l;cases agg with
    | true=>simp [X1A] at hq
    | false =>
      obtain⟨rfl,_⟩:=Z2L hl;simp only [X1A] at hq
      split at hq
      case h_2=>cases hq
      rename_i p' l hx;cases hq;obtain⟨ad,cs,hv,hs,hFc,hR⟩:=(s.eval hF hx).cp_inv;have hcut:X17 false 1 0 (p :: l)=some p:=by simp [X17]
      obtain⟨val,hr,hrep⟩:=Z5h (w:=w) hl hs hcut (fun j hj=>by
       obtain rfl:j=0:=by omega
       exact⟨cs 0,(hF.1 _ _ (hFc 0 (by simp))).2.2,(hF.1 _ _ (hFc 0 (by simp))).2.1,hR 0 (by simp)⟩)
      exact⟨val,by rw [hex]; simp [Instr.loadAt,hv,Instr.sureAddr,hr],hrep⟩
 case h_14 t x i ho =>
  have hex:execOp a.eval o=(do pure (.value (<- Instr.fieldAt t (a.eval x) i))):=by simp [execOp,ho]
  split at hc
  case h_2=>simp at hc
  rename_i fs hu
  split at hc
  case h_2=>simp at hc
  rename_i f hf
  split at hc
  case h_2=>simp at hc
  rename_i inf hi
  split at hc
  case isFalse=>simp at hc
  rename_i hp;cases hc;simp only [X1A] at hq
  split at hq
  case h_2=>cases hq
  rename_i l hl;cases hq;have hne:inf.size≠0:=by omega
  have hfp:∀ ad:Addr,(fieldPlace ad f).run P w=.ok (ad.add f.offset) w:=fun ad=>by
   simp [fieldPlace,Zi hi,hne]
  obtain⟨ad,cs,hv,hs,hFc,hR⟩:=(s.eval hF hl).cp_inv;refine⟨.pointer (some (ad.add f.offset)),by rw [hex]; simp [Instr.fieldAt,Y9 hu,hf,hv,Instr.sureAddr,hfp],?_⟩;rw [ZZ _ _ hs];refine .cp _ _ (fun j=>cs (f.offset+j)) rfl (fun j hj=>?_) (fun j hj=>?_)
  . have : f.offset + j < l.length := by simp at hj; omega
    simpa [Y1N] using hFc _ this
  . have : f.offset + j < l.length := by simp at hj; omega
    simpa [Y0b] using hR _ this
 case h_16 t x i ho =>
  have hex:execOp a.eval o=(do pure (.value (<- Instr.indexAt t (a.eval x) (a.eval i)))):=by simp [execOp,ho]
  split at hc
  . rename_i el hu;have hel:P.elem t=el:=by simp [Program.elem,hu]
    have hu':P.underlying t=some (.slice (P.elem t)):=by rw [hel]; exact hu
    cases hi:P.info? el with
    | none=>simp [hi] at hc
    | some inf =>
      obtain rfl:AOp.iaddr inf.size x i=op:=by simpa [hi] using hc
      simp only [X1A] at hq
      split at hq
      case h_2=>cases hq
      rename_i l full k n hx hn
      split at hq
      case isFalse=>cases hq
      rename_i hb
      split at hq
      case isFalse=>cases hq
      rename_i hlen;cases hq;have hvn:=(s.eval hF hn).val_inv;have hlt:n.toNat<l.length:=by omega
      rcases (s.eval hF hx).vec_inv with⟨rfl,_⟩|⟨ad,cap,esz,cs,hv,hs,hcap,_,_,he,hFc,hR⟩
      . simp at hlt
      have hesz:esz=inf.size:=by rw [<- hlen]; exact (he _ hlt).symm
      subst hesz
      refine⟨.pointer (some (ad.add (n.toNat*inf.size))),by
       rw [hex,hv,hvn,Y1a,Y34 w t ad l.length cap k n hu',Y6 hb,hel,Zi hi]; rfl,?_⟩
      rw [ZZ _ _ (hs (by rintro rfl; simp at hlt))];refine .cp _ _ (fun j=>cs n.toNat j) rfl (fun j hj=>?_) (fun j hj=>?_)
      . have := hFc n.toNat j hlt (by omega);simpa [Y1N] using this
      . exact hR n.toNat j hlt (by omega)
  . simp only [Y11] at hc;obtain⟨_,_,rfl⟩:=hc;simp [X1A] at hq
  . cases hc
 case h_25 c ho =>
  split at hc
  . cases hc; simp [X1A] at hq
  . rename_i hcal
    split at hc
    case h_2=>simp at hc
    rename_i t x ht hx;have ha:c.args = #[x]:=X6E hx;have hat:c.argTypes = #[t]:=X6E ht;have hex:execOp a.eval o=(do pure (.value (<- Builtin.len_ #[t] o.type #[a.eval x]))):=by simp [execOp,ho,resolve,hcal,invoke,builtin,ha,hat]
    split at hc
    . rename_i el hu;cases hc;simp only [X1A] at hq
      split at hq
      case h_2=>cases hq
      rename_i l full hxl;cases hq;rcases (s.eval hF hxl).vec_inv with⟨rfl,hv⟩|⟨ad,cap,esz,cs,hv,_⟩
      . exact⟨.int .i64 0,by rw [hex]; simp [Builtin.len_,Y9 hu,hv,goInt],.val _⟩
      . exact⟨.int .i64 l.length,by rw [hex]; simp [Builtin.len_,Y9 hu,hv,goInt],.val _⟩
    all_goals ((repeat' (split at hc))<;>first
    | (cases hc; done)
    | (cases hc; simp [X1A] at hq; done)
    | (simp at hc; done)
    | (simp only [Y11] at hc; obtain⟨_,_,rfl⟩:=hc; simp [X1A] at hq; done))
  all_goals ((repeat' (split at hc))<;>first
   | (cases hc; done)
   | (cases hc; simp [X1A] at hq; done)
   | (simp at hc; done)
   | (simp only [Y11] at hc; obtain⟨_,_,rfl⟩:=hc; simp [X1A] at hq; done))
 all_goals ((repeat' (split at hc))<;>first
  | (cases hc; done)
  | (cases hc; simp [X1A] at hq; done)
  | (simp at hc; done)
  | (simp only [Y11] at hc; obtain⟨_,_,rfl⟩:=hc; simp [X1A] at hq; done))
end
structure JC (α:Type) where
 FN:Fence
 m:Nat
 nt:Nat
 F:XL
 B:Nat
 K:Bool->List α->World->Prop
 l:Nat
 N:Nat
 encs:α->List Value
 Sp:List α->Prop
structure JC.Ok {α:Type} (Y:JC α) (P:Program):Prop where
 fence:XD Y.FN Y.m
 round:Y.FN.round=none
 grow:∀ b pre W W',Y.K b pre W->W.grownBy W' none->Y.K b pre W'
 yield:∀ pre x W,Y.K true pre W->pre.length<Y.N->YieldAt Y.FN (Y.m-1) P Y.l (Y.encs x).toArray W fun e W' =>
  (e=.returned (.bool true)/\Y.K true (pre ++ [x]) W'/\KpF Y.F W W') \/ (e=.returned (.bool false)/\Y.K false (pre ++ [x]) W')
section
variable {α:Type} {P:Program} {Y:JC α}
def JSt (Y:JC α) (b:Bool) (pre:List α) (e:Env) (a:Act) (w:World):Prop:=X2T Y.nt Y.F e a/\Holds Y.F w/\Y.K b pre w
def X4O (Y:JC α) (Q:Exit->List α->Env->Prop) (x:Exit) (a:Act) (w:World):Prop:=(∃ pre e,Q x pre e/\JSt Y true pre e a w) \/ (x=.ret/\∃ pre,Y.Sp pre/\Y.K false pre w/\a.defers = [])
def jw (P:Program) (Y:JC α) (ac:X6) (Q:Exit->List α->Env->Prop) (pre:List α) (e:Env):Prop :=
 Y.Ok P->∀ c,Xu P Y.nt c=some ac->∀ a w,JSt Y true pre e a w->c.wpIn Y.FN Y.m P (X4O Y Q) a w
def X6i (next:List α->Env->Prop) (Q:Exit->List α->Env->Prop):Exit->List α->Env->Prop
 | .normal=>next
 | x=>Q x
def X5s (id:Nat) (Q:Exit->List α->Env->Prop):Exit->List α->Env->Prop
 | .exit id'=>bif Nat.beq id' id then Q .normal else Q (.exit id')
 | x=>Q x
variable {Q:Exit->List α->Env->Prop} {pre:List α} {e:Env}
theorem Z51 (hk:Q .normal pre e):jw P Y .skip Q pre e:=by
 intro hY c hc a w hs;have:c=.skip:=by
  unfold Xu at hc
  split at hc<;>first|rfl|(simp at hc; done)|((repeat' (split at hc))<;>simp at hc)
 subst this;exact wpIn_skip (.inl ⟨pre,e,hk,hs⟩)
theorem Z61 {id:Nat} (hk:Q (.exit id) pre e):jw P Y (.exit id) Q pre e:=by
 intro hY c hc a w hs;have:c=.exit id:=by
  unfold Xu at hc
  split at hc<;>first|(simp at hc; subst hc; rfl)|(simp at hc; done)|((repeat' (split at hc))<;>simp at hc)
 subst this;exact wpIn_exit (.inl ⟨pre,e,hk,hs⟩)
theorem Z8o (hk:Q .ret pre e):jw P Y .ret Q pre e:=by
 intro hY c hc a w hs;have:c=.ret:=by
  unfold Xu at hc
  split at hc<;>first|rfl|(simp at hc; done)|((repeat' (split at hc))<;>simp at hc)
 subst this;exact wpIn_ret (.inl ⟨pre,e,hk,hs⟩)
theorem Z5q {x y:X6} (hk:jw P Y x (X6i (jw P Y y Q) Q) pre e):jw P Y (.seq x y) Q pre e:=by
 intro hY c hc a w hs;have:∃ c1 c2,c=.seq c1 c2/\Xu P Y.nt c1=some x/\Xu P Y.nt c2=some y:=by
  unfold Xu at hc
  split at hc<;>first
   | (split at hc<;>first|(simp at hc; obtain⟨rfl,rfl⟩:=hc; exact⟨_,_,rfl,by assumption,by assumption⟩)|(simp at hc; done)|((repeat' (split at hc))<;>simp at hc; done))
   | (simp at hc; done)
 obtain⟨c1,c2,rfl,h1,h2⟩:=this;refine wpIn_seq (Y2C (hk hY c1 h1 a w hs) fun x a w hp=>?_);rcases hp with⟨pre,e,hQ,hS⟩|⟨rfl,hS⟩
 . cases x with
   | normal=>exact hQ hY c2 h2 a w hS
   | _=>exact .inl ⟨pre,e,hQ,hS⟩
 . exact .inr ⟨rfl,hS⟩
theorem Z2e {c:Operand} {x y:X6} {b:Bool} (hc:ev e c=some (.val (.bool b))) (ht:b=true->jw P Y x Q pre e) (hf:b=false->jw P Y y Q pre e):jw P Y (.cond c x y) Q pre e:=by
 intro hY cc hcc a w hs;have:∃ c1 c2,cc=.cond c c1 c2/\Xu P Y.nt c1=some x/\Xu P Y.nt c2=some y:=by
  unfold Xu at hcc
  split at hcc<;>first
   | (split at hcc<;>first|(simp at hcc; obtain⟨rfl,rfl,rfl⟩:=hcc; exact⟨_,_,rfl,by assumption,by assumption⟩)|(simp at hcc; done)|((repeat' (split at hcc))<;>simp at hcc; done))
   | (simp at hcc; done)
 obtain⟨c1,c2,rfl,h1,h2⟩:=this;refine Y3T (hs.1.eval hs.2.1 hc).val_inv (fun hb=>ht hb hY c1 h1 a w hs) (fun hb=>hf hb hY c2 h2 a w hs)
theorem Z3z {id:Nat} {x:X6} (hk:jw P Y x (X5s id Q) pre e):jw P Y (.block id x) Q pre e:=by
 intro hY c hc a w hs;have:∃ c1,c=.block id c1/\Xu P Y.nt c1=some x:=by
  unfold Xu at hc
  split at hc<;>first
   | (split at hc<;>first|(simp at hc; obtain⟨rfl,rfl⟩:=hc; exact⟨_,rfl,by assumption⟩)|(simp at hc; done)|((repeat' (split at hc))<;>simp at hc; done))
   | (simp at hc; done)
 obtain⟨c1,rfl,h1⟩:=this;refine wpIn_block (Y2C (hk hY c1 h1 a w hs) fun x a w hp=>?_);rcases hp with⟨pre,e,hQ,hS⟩|⟨rfl,hS⟩
 . cases x with
   | exit id' =>
     simp only [X5s] at hQ;simp only [Exit.inBlock];by_cases hid:id'=id
     . subst hid;have hb:Nat.beq id' id'=true:=by simp
       rw [hb] at hQ;rw [Y6 rfl];exact .inl ⟨pre,e,hQ,hS⟩
     . have hb : Nat.beq id' id = false := Yy.2 fun hb => hid (YH hb);rw [hb] at hQ;rw [Y8 hid];exact .inl ⟨pre,e,hQ,hS⟩
   | _=>exact .inl ⟨pre,e,hQ,hS⟩
 . exact .inr ⟨rfl,hS⟩
theorem Zgn {L:List (Nat×PV)} {b:Bool} (he:X3i e L) {a:Act} {w:World} (hs:JSt Y b pre e a w):JSt Y b pre (X1D L) a w:=⟨⟨hs.1.sz,hs.1.nd,fun k p hk=>hs.1.env k p (he.some hk)⟩,hs.2⟩
theorem ZbZ {X:Type} (I:X->Prop) (μ:X->Nat) (R:X->List α) (L:X->List (Nat×PV)) {body:X6} (x0:X) (h0:I x0) (hR:R x0=pre) (hL:X3i e (L x0))
 (round:∀ x,I x->jw P Y body (X6i (fun pre' e'=>∃ x',I x'/\μ x'<μ x/\R x'=pre'/\X3i e' (L x')) Q) (R x) (X1D (L x))):jw P Y (.loop body) Q pre e:=by
 intro hY c hc a w hs;have:∃ c1,c=.loop c1/\Xu P Y.nt c1=some body:=by
  unfold Xu at hc
  split at hc<;>first
   | (split at hc<;>first|(simp at hc; subst hc; exact⟨_,rfl,by assumption⟩)|(simp at hc; done)|((repeat' (split at hc))<;>simp at hc; done))
   | (simp at hc; done)
 obtain⟨c1,rfl,h1⟩:=this
 let p:Act->World->Nat->Prop:=fun a w k=>∃ x,I x/\μ x=k/\JSt Y true (R x) (X1D (L x)) a w
 refine wpIn_loop (fun a w=>∃ k,p a w k) (fun a w=>least (p a w)) ⟨_,x0,h0,rfl,by rw [hR]; exact Zgn hL hs⟩ ?_;rintro a w ⟨k,hk⟩;obtain⟨⟨x,hx,hxk,hst⟩,_⟩:=Z4y hk;refine Y2C (round x hx hY c1 h1 a w hst) fun ex a' w' hp=>?_;rcases hp with⟨pre',e',hQ,hS⟩|⟨rfl,hS⟩
 . cases ex with
   | normal =>
     obtain⟨x',hx',hlt,rfl,hE⟩:=hQ;have hp':p a' w' (μ x'):=⟨x',hx',rfl,Zgn hE hS⟩
     refine⟨⟨_,hp'⟩,?_⟩;have:=(Z4y hp').2;omega
   | _=>exact .inl ⟨pre',e',hQ,hS⟩
 . exact .inr ⟨rfl,hS⟩
def X4z (P:Program) (Y:JC α):List Xs->List α->Env->(List α->Env->Prop)->Prop
 | [],pre,e,K=>K pre e
 | o :: os, pre, e, K => o.guard = none /\ ((∃ p, X1A o.op e = some p /\ X4z P Y os pre (XC e o.dst p) K) \/
     (∃ f args g caps as0 v,o.op=.call f args/\ev e f=some (.fn g caps)/\evs e args=some as0/\X5 (as0++caps)/\X7 P g (as0++caps) (· = .val v)/\X4z P Y os pre (XC e o.dst (.val v)) K))
theorem Z27 {os:List Xs} {d:Option Nat} {op:AOp} {p:PV} {K:List α->Env->Prop} (hq:X1A op e=some p) (hk:X4z P Y os pre (XC e d p) K):X4z P Y (⟨d,op,none⟩ :: os) pre e K:=⟨rfl,.inl ⟨p,hq,hk⟩⟩
theorem Zgo {os:List Xs} {d:Option Nat} {f:Operand} {args:List Operand} {g:FuncId} {caps as0 args':List PV} {v:Value} {K:List α->Env->Prop} (hs:X7 P g args' (· = .val v)) (hf:ev e f=some (.fn g caps)) (ha:evs e args=some as0) (hr:as0++caps=args') (hp:X5 args') (hk:X4z P Y os pre (XC e d (.val v)) K):X4z P Y (⟨d,.call f args,none⟩ :: os) pre e K:=by
 subst hr;exact⟨rfl,.inr ⟨f,args,g,caps,as0,v,rfl,hf,ha,hp,hs,hk⟩⟩
theorem Z1W {K:List α->Env->Prop} (hk:K pre e):X4z P Y [] pre e K:=hk
theorem Below.grownN {A B:World} (h:Below A.heap.size A B):A.grownBy B none:=⟨h.os,h.tape,h.output,h.size,fun j hj _=>h.block j hj⟩
theorem ZeK {b:Bool} {a:Act} {w:World} (hs:JSt Y b pre e a w) {f:Operand} {args:Array Operand} {g:Nat} {caps as0:List PV} (hf:ev e f=some (.fn g caps)) (has:evs e args.toList=some as0):∃ vs,a.eval f=.func (.func g) #[] vs/\X27 Y.F XP (args.map a.eval++vs) (as0++caps):=by
 let C:Ctx:=⟨w,fun _=>False,Y.F,Y.nt,fun _=>none⟩
 have s0:St' C (fun _=>True) e (fun _=>none) Y.F XP a w:=by
  refine { nt := hs.1.sz, glob := hs.2.1.2, marks := X2b.nil hs.1.nd, loc0 := fun i x hx => (by cases hx), free := fun _ _ => rfl, env := hs.1.env, froz := hs.2.1.1, ext := fun _ _ h => h, old := fun _ _ _ => rfl, os := rfl, tape := rfl, output := rfl, size := Y0m _, kept := fun _ _ _ => rfl,
           live:=fun id b hb=>(by cases hb),sep:=fun i j bi bj li lj k hi=>(by cases hi) }
 exact Z4x s0 hf has
theorem Z8p (hY:Y.Ok P) {ops:Array Oper} {K:List α->Env->Prop}:∀ {l:List Oper} {al:List Xs},XK P Y.nt ops l=some al->∀ {pre:List α} {e:Env} {a:Act} {w:World},JSt Y true pre e a w->X4z P Y al pre e K ->
 ∀ {QQ:Exit->Act->World->Prop},(∀ pre e a w,K pre e->JSt Y true pre e a w->QQ .normal a w)->wpListIn Y.FN Y.m P ops QQ l a w:=by
 intro l
 induction l with
 | nil =>
   intro al hc pre e a w hs hk QQ hQ;obtain rfl : []=al:=by simpa [XK] using hc
   exact hQ pre e a w hk hs
 | cons o r ih =>
   intro al hc pre e a w hs hk QQ hQ;simp only [XK] at hc
   split at hc
   case h_2=>simp at hc
   rename_i ao al' ho hl;obtain rfl:ao :: al'=al:=by simpa using hc
   unfold X2z at ho
   split at ho
   case h_2=>simp at ho
   rename_i op g hop hg
   split at ho
   case isFalse=>simp at ho
   rename_i hdst;cases ho;simp only [X4z] at hk;obtain⟨hgn,hk⟩:=hk;subst hgn;have hgo:o.guard=none:=by
    unfold X3F at hg
    split at hg
    . assumption
    . split at hg
      . split at hg
        . cases hg
        . cases hg
      . cases hg
   simp only [wpListIn];rw [Y6 (by simp [Region.wanted,hgo])];refine⟨fun f _=>hY.fence.fn f,?_⟩;rw [Y3g Y.FN.round a.eval o (Z3h hop)];rcases hk with⟨p,hq,hk⟩|⟨f,args,g,caps,as0,v,hop',hf,has,hp,hsp,hk⟩
   . obtain ⟨val, hr, hrep⟩ := ZbY hop hs.1 hs.2.1 hq;rw [hr];exact ih hl ⟨hs.1.putO hdst hrep,hs.2⟩ hk hQ
   . subst hop';obtain⟨⟨fn,hfn,hname,hbody⟩,hspec⟩:=hsp;obtain⟨c,hoc,hcal,hargs⟩:=Z93 hop;subst hargs;obtain⟨vs,hvf,hrep⟩:=ZeK hs hf has;have hrun:(execOp a.eval o).run P w=.ok (.enter g (c.args.map a.eval++vs)) w:=by
      have h1 : ¬ fn.name = "runtime.NumGoroutine" := by simpa using hname
      have h2:¬ fn.body=none:=fun h=>by rw [h] at hbody; simp at hbody
      simp [execOp,hoc,resolve,hcal,hvf,Deferred.ofValue,invoke,callFunc,hfn,h1,h2]
     rw [hrun];refine⟨fun hd=>by rw [hY.fence.depth] at hd; simp at hd,hY.fence.calls _ _ _ _ _ ((hspec Y.F w _ hs.2.1 hrep).mono ?_)⟩;rintro en w' ⟨v',r',F',rfl,rfl,hvr,hbel,hF',hext,hold⟩;obtain rfl:v'=v:=hvr.val_inv;refine ih hl ⟨hs.1.putO hdst (.val _),⟨fun x u hx=>⟨(hs.2.1.1 x u hx).1,(hs.2.1.1 x u hx).2.1,(hF'.1 x u (hext x u hx)).2.2⟩,hs.2.1.2⟩,hY.grow _ _ _ _ hs.2.2 (Below.grownN hbel)⟩ hk hQ
theorem Z8q {al:List Xs} {c:Code} (h:Xu P Y.nt c=some (.region al)):∃ id ops,c=.region id ops false/\XK P Y.nt ops ops.toList=some al:=by
 unfold Xu at h
 split at h<;>first
  | (simp at h; done)
  | (split at h
     . split at h
       . simp at h; subst h; exact⟨_,_,rfl,by assumption⟩
       . split at h<;>simp at h
     . simp at h)
  | (split at h<;>simp at h; done)
  | ((repeat' (split at h))<;>simp at h; done)
theorem Z2m {al:List Xs} (hk:X4z P Y al pre e (fun pre e=>Q .normal pre e)):jw P Y (.region al) Q pre e:=by
 intro hY c hc a w hs;obtain⟨id,ops,rfl,h1⟩:=Z8q hc;exact Y3J (Z8p hY h1 hs hk fun pre e a w hK hS=>.inl ⟨pre,e,hK,hS⟩)
theorem Z9g (ops:Array Oper) {l:List Oper}:∀ {al bl:List Xs},XK P Y.nt ops l=some (al++bl)->∃ l1 l2,l=l1++l2/\XK P Y.nt ops l1=some al/\XK P Y.nt ops l2=some bl:=by
 induction l with
 | nil =>
   intro al bl h;simp [XK] at h;obtain⟨rfl,rfl⟩:=h;exact⟨[],[],rfl,rfl,rfl⟩
 | cons o r ih =>
   intro al bl h;cases al with
   | nil=>exact⟨[],o :: r,rfl,rfl,h⟩
   | cons x al =>
     simp only [XK] at h
     split at h
     case h_2=>cases h
     rename_i a' l' h1 h2;simp at h;obtain⟨rfl,rfl⟩:=h;obtain⟨l1,l2,rfl,g1,g2⟩:=ih h2;exact⟨o :: l1,l2,rfl,by simp [XK,h1,g1],g2⟩
theorem Z14 {FN:Fence} {m:Nat} {ops:Array Oper} {QQ:Exit->Act->World->Prop}:∀ {l1 l2:List Oper} {a:Act} {w:World},wpListIn FN m P ops (fun x a w=>match x with | .normal=>wpListIn FN m P ops QQ l2 a w|x=>QQ x a w) l1 a w->wpListIn FN m P ops QQ (l1++l2) a w
 | [],l2,a,w,h=>h
 | o :: r, l2, a, w, h => by
   simp only [wpListIn,Y3O] at h ⊢
   split
   . rename_i hw;rw [Y6 hw] at h;obtain⟨h1,h2⟩:=h;refine⟨h1,?_⟩;unfold Oper.uponIn at h2 ⊢
     split at h2
     . exact Z14 h2
     . exact Z14 h2
     . exact Z14 h2
     . refine ⟨h2.1, h2.2.mono fun en w' hh => ?_⟩;cases en with
       | returned v=>exact Z14 hh
       | panicked chain=>exact hh
       | outgrown=>exact hh
     . exact⟨h2.1,h2.2.mono fun v w' hh=>Z14 hh⟩
     . refine ⟨h2.1, h2.2.mono fun en w' hh => ?_⟩;cases en with
       | returned v=>exact Z14 hh
       | panicked chain=>exact hh
       | outgrown=>exact hh
     . exact h2
     . exact h2
   . rename_i hw;rw [Y8 hw] at h;exact⟨h.1,Z14 h.2⟩
theorem ZiA (x:α) {al:List Xs} {d1 d2:Nat} {f:Operand} {args:List Operand} (hk:X4z P Y al pre e (fun pre' e'=>pre'=pre/\ev e' f=some (.val (.func (.yield Y.l) #[] #[]))/\evs e' args=some ((Y.encs x).map .val)/\pre.length<Y.N/\Y.Sp (pre ++ [x])/\Q .normal (pre ++ [x]) ((e'.upd d1 (.val (.bool true))).upd d2 (.val (.bool false))))) :
 jw P Y (.seq (.region (al ++ [⟨some d1,.call f args,none⟩,⟨some d2,.una .not (.tmp d1),none⟩])) (.cond (.tmp d2) .ret .skip)) Q pre e:=by
 intro hY c hc a w hs;have:∃ c1 c2,c=.seq c1 c2/\Xu P Y.nt c1=some (.region (al ++ [⟨some d1,.call f args,none⟩,⟨some d2,.una .not (.tmp d1),none⟩]))/\Xu P Y.nt c2=some (.cond (.tmp d2) .ret .skip):=by
  unfold Xu at hc
  split at hc<;>first
   | (split at hc<;>first|(simp at hc; obtain⟨rfl,rfl⟩:=hc; exact⟨_,_,rfl,by assumption,by assumption⟩)|(simp at hc; done)|((repeat' (split at hc))<;>simp at hc; done))
   | (simp at hc; done)
 obtain⟨c1,c2,rfl,h1,h2⟩:=this;have:∃ k1 k2,c2=.cond (.tmp d2) k1 k2/\Xu P Y.nt k1=some .ret/\Xu P Y.nt k2=some .skip:=by
  unfold Xu at h2
  split at h2<;>first
   | (split at h2<;>first|(simp at h2; obtain⟨rfl,rfl,rfl⟩:=h2; exact⟨_,_,rfl,by assumption,by assumption⟩)|(simp at h2; done)|((repeat' (split at h2))<;>simp at h2; done))
   | (simp at h2; done)
 obtain⟨k1,k2,rfl,g1,g2⟩:=this;have hk1:k1=.ret:=by
  unfold Xu at g1
  split at g1<;>first|rfl|(simp at g1; done)|((repeat' (split at g1))<;>simp at g1)
 have hk2:k2=.skip:=by
  unfold Xu at g2
  split at g2<;>first|rfl|(simp at g2; done)|((repeat' (split at g2))<;>simp at g2)
 subst hk1;subst hk2;obtain⟨id,ops,rfl,hops⟩:=Z8q h1;obtain⟨l1,l2,hl,ho1,ho2⟩:=Z9g ops hops;refine wpIn_seq (Y3J ?_);rw [hl];refine Z14 (Z8p hY ho1 hs hk fun pre' e' a' w' hK hS=>?_);obtain⟨rfl,hf,has,hlen,hSp,hQ⟩:=hK;cases l2 with
 | nil=>simp [XK] at ho2
 | cons o r =>
   simp only [XK] at ho2
   split at ho2
   case h_2=>cases ho2
   rename_i ao al' ho hl2;simp at ho2;obtain⟨rfl,rfl⟩:=ho2;cases r with
   | nil=>simp [XK] at hl2
   | cons o2 r2 =>
     simp only [XK] at hl2
     split at hl2
     case h_2=>cases hl2
     rename_i ao2 al2 hoo2 hl3;simp at hl2;obtain⟨rfl,rfl⟩:=hl2;have hr2:r2 = []:=by
      cases r2 with
      | nil=>rfl
      | cons x y=>simp only [XK] at hl3; split at hl3<;>simp at hl3
     subst hr2;have dst:∀ {oo:Oper} {d:Nat} {op:AOp},X2z P Y.nt ops oo=some ⟨some d,op,none⟩->oo.dst=some d/\d<Y.nt/\oo.guard=none/\cOp P oo=some op:=by
      intro oo d op h;unfold X2z at h
      split at h
      case h_2=>simp at h
      rename_i op' g hop hg
      split at h
      case isFalse=>simp at h
      rename_i hd;simp at h;obtain⟨hd1,rfl,rfl⟩:=h;refine⟨hd1,by rw [hd1] at hd; simpa [X2O] using hd,?_,hop⟩;unfold X3F at hg
      split at hg
      . assumption
      . split at hg
        . split at hg
          . cases hg
          . cases hg
        . cases hg
     obtain⟨hd1,hlt1,hgd1,hop1⟩:=dst ho;obtain⟨hd2,hlt2,hgd2,hop2⟩:=dst hoo2;obtain⟨cc,hoc,hcal,hargs⟩:=Z93 hop1;have hun:∃ uop t,o2.op=.unOp uop t (.tmp d1)/\uop=.not:=by
      unfold cOp at hop2
      split at hop2<;>first
       | (rename_i uop t x' ho'; simp at hop2; obtain⟨rfl,rfl⟩:=hop2; exact⟨_,_,ho',rfl⟩)
       | (simp at hop2; done)
       | ((repeat' (split at hop2))<;>simp at hop2; done)
     obtain⟨_,ut,hu2,rfl⟩:=hun;have hvf:=(hS.1.eval hS.2.1 hf).val_inv;have hvs:cc.args.map a'.eval=(Y.encs x).toArray:=by
      have hev:∀ {xs:List Operand} {vs:List Value},evs e' xs=some (vs.map .val)->xs.map a'.eval=vs:=by
       intro xs
       induction xs with
       | nil => intro vs h; cases vs with
         | nil=>rfl
         | cons _ _=>simp [evs] at h
       | cons y ys ih =>
         intro vs h;simp only [evs] at h
         split at h
         case h_2=>cases h
         rename_i p l hp hl;cases vs with
         | nil=>simp at h
         | cons v vs =>
           simp at h;obtain⟨rfl,rfl⟩:=h;simp only [Y1J];rw [(hS.1.eval hS.2.1 hp).val_inv,ih hl]
      have h0:=hev (xs:=cc.args.toList) (by rw [hargs]; exact has);apply Y4L;simpa using h0
     obtain⟨fn,tmps,assign,body,hyr,hR⟩:=hY.yield pre' x w' hS.2.2 hlen;have hrun:(execOp a'.eval o).run P w'=.ok (.round Y.l fn tmps assign body) w':=by
      have:execOp a'.eval o=Instr.yield Y.l (cc.args.map a'.eval):=by
       simp [execOp,hoc,resolve,hcal,hvf,Deferred.ofValue,invoke]
      rw [this,hvs];exact hyr
     simp only [wpListIn];rw [Y6 (by simp [Region.wanted,hgd1])];refine⟨fun f _=>hY.fence.fn f,?_⟩;rw [Y3g Y.FN.round a'.eval o (Z3h hop1),hrun];refine⟨fun hd=>by rw [hY.fence.depth] at hd; simp at hd,hR.mono ?_⟩;have step:∀ (bb:Bool) (w3:World),(wpListIn Y.FN Y.m P ops (Exit.then ((Code.cond (.tmp d2) .ret .skip).wpIn Y.FN Y.m P (X4O Y Q)) (X4O Y Q)) [] ((a'.put (some d1) (.bool bb)).put (some d2) (.bool (!bb))) w3) ->
      wpListIn Y.FN Y.m P ops (Exit.then ((Code.cond (.tmp d2) .ret .skip).wpIn Y.FN Y.m P (X4O Y Q)) (X4O Y Q)) [o2] (a'.put o.dst (.bool bb)) w3:=by
      intro bb w3 h3;simp only [wpListIn];rw [Y6 (by simp [Region.wanted,hgd2])];refine⟨fun f _=>hY.fence.fn f,?_⟩;have hv1:(a'.put o.dst (.bool bb)).eval (.tmp d1)=.bool bb:=by
       rw [hd1];show (a'.tmps.setIfInBounds d1 (.bool bb)).getD d1 undef=.bool bb;rw [Z1c _ _ _ _ (by rw [hS.1.sz]; exact hlt1)];simp
      have hex:(execOp (a'.put o.dst (.bool bb)).eval o2).run P w3=.ok (.value (.bool (!bb))) w3:=by
       simp only [execOp,hu2,hv1];cases bb<;>simp [Op.unary]
      rw [Y3g Y.FN.round _ o2 (Z3h hop2),hex];simp only [Oper.uponIn];rw [hd2];rw [hd1];exact h3
     have ev2:∀ bb:Bool,((a'.put (some d1) (.bool bb)).put (some d2) (.bool (!bb))).eval (.tmp d2)=.bool (!bb):=by
      intro bb;show ((a'.tmps.setIfInBounds d1 (.bool bb)).setIfInBounds d2 (.bool (!bb))).getD d2 undef=.bool (!bb);rw [Z1c _ _ _ _ (by simp [hS.1.sz]; exact hlt2)];simp
     rintro en w3 (⟨rfl,hK,hkp⟩|⟨rfl,hK⟩)
     . refine step true w3 (Y3T (t := false) (ev2 true) (fun h => by cases h) fun _ => wpIn_skip (.inl ⟨_, _, hQ, ?_, ?_, hK⟩))
       . exact (hS.1.put hlt1 (.val _)).put hlt2 (.val _)
       . exact⟨fun y u hy=>⟨(hS.2.1.1 y u hy).1,(hS.2.1.1 y u hy).2.1,hkp.1 y u hy (hS.2.1.1 y u hy).2.2⟩,hS.2.1.2⟩
     . exact step false w3 (Y3T (t:=true) (ev2 false) (fun _=>wpIn_ret (.inr ⟨rfl,_,hSp,hK,hS.1.nd⟩)) fun h=>by cases h)
theorem ZeL {f nt:Nat} {ac:X6} (hf:X3O P f nt ac []) {caps:List PV} {encs:α->List Value} {S Sp:List α->Prop} {M:Nat} (hn:caps.length+1<=nt)
 (hk:∀ Y:JC α,Y.N=M->Y.encs=encs->Y.Sp=Sp->Y.nt=nt->jw P Y ac (fun x pre _=>(x=.normal \/ x=.ret)/\S pre) [] (XV (.val (.func (.yield Y.l) #[] #[]) :: caps))):X4L P f caps encs S Sp M:=by
 obtain⟨hm,fn,c,hfn,hname,hb,rfl,hc,hr⟩:=hf;refine⟨⟨fn,hfn,hname,by rw [hb]; rfl⟩,fun F w lb FN m hok hF hrep=>?_⟩;intro l J Jx W hbel hJ hJx hyield h0;have hres:fn.results = #[]:=by
  cases hl:fn.results.toList with
  | nil=>simpa using hl
  | cons r rs =>
    rw [hl] at hr;simp only [X2Z] at hr
    split at hr<;>simp at hr
 show CallsIn FN.plain m P f _ W _;refine callsIn_of_wp hfn hb (hok.fn f) ?_ rfl
 let Y:JC α:=⟨FN.plain,m,fn.ntmps,F,W.heap.size,fun b pre W'=>if b=true then J pre W' else Jx pre W',l,M,encs,Sp⟩
 have hY:Y.Ok P:=by
  refine⟨⟨hok.fn,hok.depth,fun P f args w R h=>hok.calls P f args w R h⟩,rfl,?_,?_⟩
  . intro b pre W1 W2 hK hg;cases b with
    | true=>exact hJ pre W1 W2 none hK hg (fun r hr=>by cases hr)
    | false=>exact hJx pre W1 W2 none hK hg (fun r hr=>by cases hr)
  . intro pre x W1 hK hlen;obtain⟨fn',tmps,assign,body,h1,h2⟩:=hyield pre x W1 hK hlen;refine⟨fn',tmps,assign,body,h1,?_⟩;have h2':=h2.mono (R':=fun e W'=>(e=.returned (.bool true)/\Y.K true (pre ++ [x]) W'/\KpF Y.F W1 W') \/ (e=.returned (.bool false)/\Y.K false (pre ++ [x]) W')) (fun en W' h=>h);exact h2'
 have hsz:lb.size=caps.length:=hrep.1
 have hFW:Holds F W:=⟨fun x v hx=>by
  obtain⟨g1,g2,g3⟩:=hF.1 x v hx
  exact⟨g1,g2,by rw [Y2h (w:=w) (hbel.block x.block (Y3K g3))]; exact g3⟩,hF.2⟩
 have hS:JSt Y true [] (XV (.val (.func (.yield l) #[] #[]) :: caps)) { tmps:=(#[.func (.yield l) #[] #[]]++lb)++Array.replicate (fn.ntmps-(#[Value.func (.yield l) #[] #[]]++lb).size) undef,defers := [] } W:=by
  refine⟨⟨by simp [Y]; omega,rfl,fun k p hp=>?_⟩,hFW,h0⟩;have hk:k<caps.length+1:=by have:=(Y7.1 hp).1; simpa using this
  refine⟨by simp only [Y]; omega,?_⟩;cases k with
  | zero =>
    simp [XV] at hp;subst hp;have e0:((#[Value.func (.yield l) #[] #[]]++lb)++Array.replicate (fn.ntmps-(#[Value.func (.yield l) #[] #[]]++lb).size) undef).getD 0 undef=.func (.yield l) #[] #[]:=by
     simp only [Y0d];rw [Y17 (by simp;omega),Y17 (by simp)]
     rfl
    show Rep F XP (((#[Value.func (.yield l) #[] #[]]++lb)++Array.replicate (fn.ntmps-(#[Value.func (.yield l) #[] #[]]++lb).size) undef).getD 0 undef) _;rw [e0];exact .val _
  | succ k =>
    have hk':k<caps.length:=by omega
    have e1:((#[Value.func (.yield l) #[] #[]]++lb)++Array.replicate (fn.ntmps-(#[Value.func (.yield l) #[] #[]]++lb).size) undef).getD (k+1) undef=lb.getD k undef:=by
     simp only [Y0d];rw [Y17 (by simp;omega),Y2H (by simp)];simp
    have e2:caps.getD k pvu=p:=by
     have hp':caps[k]?=some p:=by simpa [XV] using hp
     rw [Y0b,hp']; rfl
    rw [e1,<- e2];exact hrep.2 k hk'
 refine Y2C (hk Y rfl rfl rfl rfl hY c hc _ W hS) fun x a' w' hp=>?_;have hres':∀ tmps,(results fn tmps).run P w'=.ok (.tuple #[]) w':=fun tmps=>by simp [results,hres]
 rcases hp with⟨pre,e,⟨hx,hSp⟩,hS'⟩|⟨rfl,pre,hsp,hK,hd⟩
 . have fin : a'.defers = [] /\ ∃ v, (results fn a'.tmps).run P w' = .ok v w' /\ ((∃ v', Ending.returned v = Ending.returned v') /\ ((∃ xs, S xs /\ J xs w') \/ ∃ pre, Sp pre /\ Jx pre w')) :=
    ⟨hS'.1.nd,_,hres' _,⟨_,rfl⟩,.inl ⟨pre,hSp,hS'.2.2⟩⟩
   rcases hx with rfl|rfl
   . exact fin
   . exact fin
 . exact⟨hd,_,hres' _,⟨_,rfl⟩,.inr ⟨pre,hsp,hK⟩⟩
end
end
section
open Go.RowKit
attribute [local irreducible] aw Xr dK
theorem Z1X:XG 0=.agg [.vec [] false]:=by rw [XG,ZL]; rfl
theorem Z5r {N:Nat} (h:N<18446744073709551616) (h0:N≠0):Xb N = [N]:=by
 rw [Z4D h0,Y1v h,Y2a h,ZL]
theorem Z3A {N:Nat} (h:N<18446744073709551616) (h0:N≠0):XG N=.agg [.vec [[.val (.int .u64 (N:Int))]] false]:=by rw [XG,Z5r h h0]; rfl
theorem XT {a b:Bool} (h:a=b):PV.val (.bool a)=PV.val (.bool b):=by rw [h]
theorem Z1d {N:Nat} (h:N<18446744073709551616):(N=0/\XG N=.agg [.vec [] false]) \/ (N≠0/\XG N=.agg [.vec [[.val (.int .u64 (N:Int))]] false]):=by
 by_cases h0:N=0
 . subst h0; exact .inl ⟨rfl,Z1X⟩
 . exact .inr ⟨h0,Z3A h h0⟩
def Xg (a b:Nat):Nat:=a &&& (18446744073709551615-b)
theorem ZB {a b:Nat} (ha:a<18446744073709551616) (hb:b<18446744073709551616) (i:Nat):(Xg a b).testBit i=(a.testBit i && !b.testBit i):=by
 have h:=Y3h (n:=64) hb i;have e:(2:Nat) ^ 64-(b+1)=18446744073709551615-b:=by omega
 rw [e] at h;rw [Xg,Y0z,h];by_cases hi:i<64
 . simp [hi]
 . have : a.testBit i = false := Y1R (YY ha (YJ (n := 2) (by omega) (show 64 <= i by omega)));simp [this]
theorem Z47 {a b:Nat} (ha:a<18446744073709551616):Xg a b<18446744073709551616:=Y02 Y1o ha
theorem Z19 (a b:Nat) (ha:a<18446744073709551616) (hb:b<18446744073709551616):bits .andNot .u64 (a:Int) (b:Int)=((Xg a b:Nat):Int):=by
 have hx:Xg a b<2 ^ 64:=Z47 ha;have h1:(BitVec.ofInt 64 (a:Int)).toNat=a:=by
  rw [Y1A,Y1Z]; exact Y1v (by omega)
 have h2:(~~~(BitVec.ofInt 64 (b:Int))).toNat=18446744073709551615-b:=by
  rw [BitVec.toNat_not,Y1A,Y1Z,Y1v (by omega)]
 show IntKind.u64.wrap ((BitVec.ofInt 64 (a:Int) &&& ~~~(BitVec.ofInt 64 (b:Int))).toNat:Int)=_;rw [Y3P,h1,h2,Y3d];show ((Xg a b:Nat):Int) % 18446744073709551616=_;omega
theorem Zc0 {a b:Nat} (ha:a<18446744073709551616) (hb:b<18446744073709551616):Xg a b=0↔a ||| b=b:=by
 constructor
 . intro h;refine YE fun i=>?_;have:=congrArg (fun z=>Nat.testBit z i) h;simp only [ZB ha hb,Y1I] at this;rw [Y00];cases h1:a.testBit i<;>cases h2:b.testBit i<;>simp_all
 . intro h;refine YE fun i=>?_;have:=congrArg (fun z=>Nat.testBit z i) h;simp only [Y00] at this;rw [ZB ha hb,Y1I];cases h1:a.testBit i<;>cases h2:b.testBit i<;>simp_all
theorem Z4E (N M:Nat) (hN:N<18446744073709551616) (hM:M<18446744073709551616):X7 Tryz.prog 24 [XG N,XG M] (· = .val (.bool (decide (N &&& M≠0)))):=by
 have hand:=Y28 N M hN hM;rcases Z1d hN with⟨rfl,e1⟩|⟨h1,e1⟩<;>rcases Z1d hM with⟨rfl,e2⟩|⟨h2,e2⟩<;>rw [e1]<;>(try rw [e2])<;>clear e1 e2
 all_goals
  refine Yp ok24 fun C hC=>?_;refine Zm ?_;refine Z9 ?_;refine Z5 rfl rfl rfl ?_;refine Z5 rfl rfl rfl ?_;refine go ?_;refine Z1i 1 ?_;(refine go ?_;repeat' (apply B<;>intro hb<;>try cases hb))
 . exact Z8 rfl Yt (XT (by simp))
 . exact Z8 rfl Yt (XT (by simp))
 . exact Z8 rfl Yt (XT (by simp))
 . refine Z8 rfl Yt (XT ?_);rw [hand] at hb;have h3:¬ ((N &&& M:Nat):Int)=0:=by simpa using hb
   have h4:N &&& M≠0:=by omega
   simp [h4]
 . refine Z8 rfl Yt (XT ?_);rw [hand] at hb;have h3:((N &&& M:Nat):Int)=0:=by simpa using hb
   have h4:N &&& M=0:=by omega
   simp [h4]
theorem Z1z (N M:Nat) (hN:N<18446744073709551616) (hM:M<18446744073709551616):X7 Tryz.prog 87 [XG N,XG M] (· = .val (.bool (decide (N ||| M=M)))):=by
 have hand:=Z19 N M hN hM;have hz:=Zc0 hN hM;rcases Z1d hN with⟨rfl,e1⟩|⟨h1,e1⟩<;>rcases Z1d hM with⟨rfl,e2⟩|⟨h2,e2⟩<;>rw [e1]<;>(try rw [e2])<;>clear e1 e2
 all_goals
  refine Yp ok87 fun C hC=>?_;refine Zm ?_;refine Z9 ?_;refine Z5 rfl rfl rfl ?_;refine Z5 rfl rfl rfl ?_;refine go ?_;refine Z1i 1 ?_;refine go ?_
 . exact Z8 rfl Yt (XT (by simp))
 . exact Z8 rfl Yt (XT (by simp))
 . refine Qe (Z1j [] 0) ⟨⟨Yt, Yt⟩, Yt, Yt⟩ ?_;(refine go ?_;repeat' (apply B<;>intro hb<;>try cases hb))
   . exact Z8 rfl Yt (XT (by simp;omega))
   . have h3 : bits .andNot .u64 (N : Int) ((0 : Nat) : Int) = 0 := by simpa using hb
     rw [hand] at h3;exact absurd (hz.1 (by omega)) (by simp;omega)
 . refine Qe (Z1j [M] 0) ⟨⟨⟨⟨Yt, Yt⟩, Yt⟩, Yt⟩, Yt, Yt⟩ ?_;(refine go ?_;repeat' (apply B<;>intro hb<;>try cases hb))
   . have h3 : ¬ bits .andNot .u64 (N : Int) (M : Int) = 0 := by simpa using hb
     rw [hand] at h3;have h4:¬ (N ||| M=M):=fun h=>h3 (by rw [hz.2 h]; rfl);exact Z8 rfl Yt (XT (by simp [h4]))
   . have h3 : bits .andNot .u64 (N : Int) (M : Int) = 0 := by simpa using hb
     rw [hand] at h3;have h4:N ||| M=M:=hz.1 (by omega)
     exact Z8 rfl Yt (XT (by simp [h4]))
theorem Z3o (N:Nat) (hN:N<18446744073709551616):X7 Tryz.prog 27 [XG N] (· = .val (.bool (decide (N=0)))):=by
 rcases Z1d hN with⟨rfl,e1⟩|⟨h1,e1⟩<;>rw [e1]
 all_goals
  refine Yp ok27 fun C hC=>?_;refine Zm ?_;refine Z9 ?_;refine Z5 rfl rfl rfl ?_;refine go ?_
 . exact Z8 rfl Yt (XT (by simp))
 . exact Z8 rfl Yt (XT (by simp [h1]))
theorem Z52 (N M:Nat) (hN:N<18446744073709551616) (hM:M<18446744073709551616):X7 Tryz.prog 60 [XG N,XG M] (· = .val (.bool (decide (N=M)))):=by
 rcases Z1d hN with⟨rfl,e1⟩|⟨h1,e1⟩<;>rcases Z1d hM with⟨rfl,e2⟩|⟨h2,e2⟩<;>rw [e1]<;>(try rw [e2])<;>clear e1 e2
 all_goals
  refine Yp ok60 fun C hC=>?_;refine Zm ?_;refine Z9 ?_;refine Z5 rfl rfl rfl ?_;refine Z5 rfl rfl rfl ?_;refine go ?_
 . refine Z1i 1 ?_;refine go ?_;exact Z8 rfl Yt (XT (by simp))
 . exact Z8 rfl Yt (XT (by simp;omega))
 . exact Z8 rfl Yt (XT (by simp;omega))
 . refine Z1i 1 ?_;(refine go ?_;repeat' (apply B<;>intro hb<;>try cases hb))
   . have h3 : ¬ (N : Int) = (M : Int) := by simpa using hb
     exact Z8 rfl Yt (XT (by simp;omega))
   . have h3 : (N : Int) = (M : Int) := by simpa using hb
     exact Z8 rfl Yt (XT (by simp;omega))
theorem Z1S {N M:Nat} (hN:N<18446744073709551616) (hM:M<18446744073709551616):N ||| M<18446744073709551616:=Y2n (n:=64) hN hM
theorem Zkx {N M:Nat} (h:N≠0 \/ M≠0):N ||| M≠0:=fun h0=>by
 have h1:∀ i,(N ||| M).testBit i=false:=fun i=>by rw [h0]; simp
 rcases h with h|h
 . exact h (YE fun i=>by have:=h1 i; rw [Y00] at this; simp at this; simp [this.1])
 . exact h (YE fun i=>by have:=h1 i; rw [Y00] at this; simp at this; simp [this.2])
theorem Z1w (N M:Nat) (hN:N<18446744073709551616) (hM:M<18446744073709551616):X7 Tryz.prog 59 [XG N,XG M] (· = XG (N ||| M)):=by
 have hlt:=Z1S hN hM;rcases Z1d hN with⟨rfl,e1⟩|⟨h1,e1⟩<;>rcases Z1d hM with⟨rfl,e2⟩|⟨h2,e2⟩<;>rw [e1]<;>(try rw [e2])<;>clear e1 e2
 all_goals
  refine Yp ok59 fun C hC=>?_;refine Zm ?_;refine Z9 ?_;refine Z5 rfl rfl rfl ?_;refine Z5 rfl rfl rfl ?_;refine go ?_;refine Z1i 1 ?_
  repeat' (first|refine Za (Zj (k:=31) rfl rfl (ZV rfl)) ?_|(first|refine st ?_|(apply B<;>intro hb<;>try cases hb)))
 . exact Z8 rfl (Z2N rfl) Z1X.symm
 . refine Qd (Z1j [] 0) (Z13 rfl) ?_;refine go ?_;refine Qd (Z1j [M] 0) (Z13 rfl) ?_;refine Qr (ZS rfl (Y1H 0 M hN hM)) ?_
   repeat' (first|refine Za (Zj (k:=31) rfl rfl (ZV rfl)) ?_|(first|refine st ?_|(apply B<;>intro hb<;>try cases hb)))
   exact Z8 rfl (Z2N rfl) (Z3A hlt (Zkx (.inr h2))).symm
 . refine Qd (Z1j [N] 0) (Z13 rfl) ?_;refine go ?_;refine Qd (Z1j [] 0) (Z13 rfl) ?_;refine Qr (ZS rfl (Y1H N 0 hN hM)) ?_
   repeat' (first|refine Za (Zj (k:=31) rfl rfl (ZV rfl)) ?_|(first|refine st ?_|(apply B<;>intro hb<;>try cases hb)))
   exact Z8 rfl (Z2N rfl) (Z3A hlt (Zkx (.inl h1))).symm
 . refine Qd (Z1j [N] 0) (Z13 rfl) ?_;refine go ?_;refine Qd (Z1j [M] 0) (Z13 rfl) ?_;refine Qr (ZS rfl (Y1H N M hN hM)) ?_
   repeat' (first|refine Za (Zj (k:=31) rfl rfl (ZV rfl)) ?_|(first|refine st ?_|(apply B<;>intro hb<;>try cases hb)))
   exact Z8 rfl (Z2N rfl) (Z3A hlt (Zkx (.inl h1))).symm
theorem Z6p {N i:Nat} (hN:N<18446744073709551616) (h:N.testBit i=true):i<64:=by
 rcases Y3u i 64 with h' | h'
 . exact h'
 . have : N.testBit i = false := Y1R (YY hN (YJ (n := 2) (by omega) (show 64 <= i by omega)));rw [this] at h; cases h
theorem ZlM {N i:Nat} (h:N.testBit i=true):N≠0:=fun h0=>by rw [h0] at h; simp at h
theorem ZP {i:Nat} (h:i<64):2 ^ i<18446744073709551616:=by
 show 2 ^ i<2 ^ 64;exact Y1P (by omega) h
theorem Z1Y (N:Nat) (hN:N<18446744073709551616) (i:Int):X7 Tryz.prog 22 [XG N,.val (.int .i64 i)] (· = .val (.bool (decide (0<=i)&&N.testBit i.toNat))):=by
 refine (Zdv (Xb N) (Z3l N) i).mono fun r hr=>?_;rw [hr];refine XT ?_;have h:=Z2M (Z3l N) i.toNat;rw [Z6L] at h;rw [<- h];by_cases h0:0<=i
 . by_cases h1 : i <= 4095
   . simp [h0,h1]
   . have : N.testBit i.toNat = false := by
      cases hb:N.testBit i.toNat with
      | false=>rfl
      | true=>have:=Z6p hN hb; omega
     simp [this]
 . simp [h0]
def X10 (N:Nat) (i:Int):Nat:=if 0<=i/\N.testBit i.toNat=true then Xg N (2 ^ i.toNat) else N
theorem Zc1 {N:Nat} (hN:N<18446744073709551616) (i:Int):X10 N i<18446744073709551616:=by
 unfold X10; split
 . exact Z47 hN
 . exact hN
theorem Z3S {N:Nat} (hN:N<18446744073709551616) (i j:Nat):(X10 N i).testBit j=(N.testBit j&&decide (j≠i)):=by
 unfold X10
 split
 . rename_i h;rw [YZ] at h ⊢;rw [ZB hN (ZP (Z6p hN h.2)),YI];by_cases hji:j=i
   . subst hji; simp
   . simp [hji,Y2L hji]
 . rename_i h;have h':N.testBit i=false:=by
    rw [YZ] at h;cases hb:N.testBit i with
    | false=>rfl
    | true=>exact absurd ⟨by omega,hb⟩ h
   by_cases hji:j=i
   . subst hji; simp [h']
   . simp [hji]
theorem Z1E (N:Nat) (hN:N<18446744073709551616) (i:Int):X7 Tryz.prog 86 [XG N,.val (.int .i64 i)] (· = XG (X10 N i)):=by
 refine Yp ok86 fun C hC=>?_;refine Zm ?_;refine Z9 ?_;refine Z5 rfl rfl rfl ?_;refine go ?_;refine Qe (Z1Y N hN i) ⟨Z2 N,Yt,Yt⟩ ?_;by_cases h:0<=i/\N.testBit i.toNat=true
 case neg =>
  have hb:(decide (0<=i)&&N.testBit i.toNat)=false:=by
   cases hb:N.testBit i.toNat with
   | false=>simp
   | true=>simp only [hb,and_true] at h; simp [h]
  rw [hb];refine go ?_;refine Z8 rfl (Z2 N) ?_;rw [X10,Y8 h]; rfl
 obtain⟨h0,hbit⟩:=h;obtain⟨j,rfl⟩:∃ j:Nat,i=j:=⟨i.toNat,by omega⟩
 rw [YZ] at hbit;have hj:=Z6p hN hbit;have hne:=ZlM hbit;have hp:=ZP hj;have e0:X10 N (j:Int)=Xg N (2 ^ j):=by rw [X10,Y6 ⟨h0,by rw [YZ]; exact hbit⟩,YZ]
 have hb:(decide (0<=(j:Int))&&N.testBit (j:Int).toNat)=true:=by rw [YZ,hbit]; simp
 rw [hb,e0,Z3A hN hne];have hq:IntKind.i64.wrap ((j:Int).tdiv 64)=((0:Nat):Int):=by
  rw [Y32 _ _ ⟨by omega,by omega,by omega⟩]; omega
 have hr:(j:Int).tmod 64=((j:Nat):Int):=by
  rw [Y1Q (by omega)]; omega
 iterate 5 (first|refine st ?_|(apply B<;>intro hb<;>try cases hb))
 (first|refine st ?_|(apply B<;>intro hb<;>try cases hb));refine Z2c rfl rfl rfl ?_
 iterate 2 (first|refine st ?_|(apply B<;>intro hb<;>try cases hb))
 refine ZH (Zu (k:=1) rfl rfl rfl (fun c hc=>by
  rw [Y0g.1 hc]; rfl) rfl (by show (0+1)*8<=_;omega)) rfl rfl ?_
 refine go ?_;rw [hq]
 iterate 3 (first|refine st ?_|(apply B<;>intro hb<;>try cases hb))
 refine Qr (ZS rfl hr) ?_
 refine Qr (ZeE rfl rfl (by omega) (v:=((2 ^ j:Nat):Int)) (by
  rw [show min ((j:Int)).toNat IntKind.u64.bits=j by simp [IntKind.bits]; omega];rw [Y49,show (2:Int) ^ j=((2 ^ j:Nat):Int) by simp]
  exact Y0x _ ⟨Y1Y _,Y38.2 (show _<=18446744073709551615 by omega)⟩)) ?_
 refine Qr (ZS rfl (Z19 N (2 ^ j) hN hp)) ?_
 repeat' (first|refine Za (Zj (k:=25) rfl rfl (ZV rfl)) ?_|(first|refine st ?_|(apply B<;>intro hb<;>try cases hb)))
 refine Zw rfl rfl (Z2l [Xg N (2 ^ j)]) (Z13 rfl) rfl fun r hr=>?_;have hw:X1z [Xg N (2 ^ j)]:=fun x hx=>by rw [Y0g.1 hx]; exact Z47 hN
 have e1:=hr.set hw;have e2:ofW [Xg N (2 ^ j)]=Xg N (2 ^ j):=by simp [ofW]
 rw [e2] at e1;subst e1;refine go ?_;exact Z8 rfl (Z2 _) rfl
def tz (x:Nat):Nat:=if h:x % 2=1 \/ x=0 then 0 else tz (x / 2)+1
termination_by x
decreasing_by omega
theorem Z6M:∀ {x:Nat},x≠0->∃ m,x=2 ^ tz x*(2*m+1):=by
 intro x
 induction x using Nat.strongRecOn with
 | _ x ih =>
   intro h0;by_cases h:x % 2=1 \/ x=0
   . rw [tz, dif_pos h];exact⟨x / 2,by omega⟩
   . rw [tz, dif_neg h];obtain⟨m,hm⟩:=ih (x / 2) (by omega) (by omega);refine⟨m,?_⟩;rw [Y23,Nat.mul_assoc,Y24 2,<- Nat.mul_assoc,<- hm];omega
theorem Z2w (k m i:Nat):(2 ^ k*(2*m+1)).testBit i=(decide (i=k)||(decide (k<i)&&m.testBit (i-k-1))):=by
 rw [Nat.testBit_two_pow_mul];by_cases h:k<=i
 . obtain ⟨j, rfl⟩ : ∃ j, i = k + j := ⟨i - k, by omega⟩;rw [show k+j-k=j by omega];cases j with
   | zero=>simp [Y2v]
   | succ j =>
     rw [Y2A];have e:(2*m+1).testBit (j+1)=m.testBit j:=by rw [Y2w]; congr 1; omega
     simp [e]
 . have h1 : ¬ i = k := by omega
   have h2:¬ k<i:=by omega
   simp [h,h1,h2]
theorem Z6q (k m i:Nat):(2 ^ k*(2*m+1)-1).testBit i=(decide (i<k)||(decide (k<i)&&m.testBit (i-k-1))):=by
 have hp:0<2 ^ k:=Nat.pos_of_ne_zero (by simp);have e:2 ^ k*(2*m+1)-1=2 ^ k*(2*m)+(2 ^ k-1):=by rw [Nat.mul_add]; omega
 rw [e,Y4z _ (by omega)];by_cases h:i<k
 . rw [Y6 h, Y3l];simp [h]
 . rw [Y8 h];have h':¬ i<k:=h;obtain⟨j,rfl⟩:∃ j,i=k+j:=⟨i-k,by omega⟩
   rw [show k+j-k=j by omega];cases j with
   | zero=>simp [Y2v]
   | succ j =>
     rw [Y2A];have e:(2*m).testBit (j+1)=m.testBit j:=by rw [Y2w]; congr 1; omega
     simp [e];omega
theorem Zao {x:Nat} (h:x≠0):x.testBit (tz x)=true:=by
 obtain⟨m,hm⟩:=Z6M h;generalize tz x=k at hm ⊢;rw [hm,Z2w]; simp
theorem ZlN {x i:Nat} (h:x≠0) (hi:x.testBit i=true):tz x<=i:=by
 obtain⟨m,hm⟩:=Z6M h;generalize tz x=k at hm ⊢;rw [hm,Z2w] at hi;simp at hi;omega
theorem Z5s {x:Nat} (h:x≠0) (i:Nat):(x &&& (x-1)).testBit i=(x.testBit i&&decide (i≠tz x)):=by
 obtain⟨m,hm⟩:=Z6M h;generalize tz x=k at hm ⊢;rw [Y0z,hm,Z2w,Z6q];by_cases h1:i=k
 . subst h1; simp
 . by_cases h2 : k < i
   . have h3 : ¬ i < k := by omega
     simp [h1,h2,h3]
   . simp [h1,h2]
theorem Zky {x:Nat} (hx:x<18446744073709551616) (h:x≠0):x &&& (18446744073709551616-x)=2 ^ tz x:=by
 have hlt:=Z6p hx (Zao h);obtain⟨m,hm⟩:=Z6M h;generalize tz x=k at hm hlt ⊢;refine YE fun i=>?_;have e:18446744073709551616-x=2 ^ 64-((x-1)+1):=by omega
 rw [Y0z,e,Y3h (by omega),hm,Z2w,Z6q,YI];by_cases h1:i=k
 . subst h1; simp [hlt]
 . have h1' : ¬ k = i := fun h => h1 h.symm;by_cases h2:k<i
   . simp [h1, h1', h2];intro a _ _;exact a
   . simp [h1,h1',h2]
theorem ZiB:∀ k:Fin 64,(285870213051353865*2 ^ k.val % 18446744073709551616 / 288230376151711744)<64/\X22[285870213051353865*2 ^ k.val % 18446744073709551616 / 288230376151711744]?=some ((k.val:Nat):Int):=by decide
theorem ZmV {g j:Nat} {n:Nat} {e:Env} {h:X2} {i:Operand} {k:IntKind} (hg:X3u g=X22.map fun x=>.int .u8 x) (hi:ev e i=some (.val (.int k (j:Nat)))) (hj:j<64) :
 X3 (.iaddrA 64 1 (.global g) i) e h n=some (.cp ((zpv (X22.map fun x=>.int .u8 x)).drop (j*1)),h):=by
 have hev:ev e (.global g)=some (.cp (zpv (X22.map fun x=>.int .u8 x))):=by
  simp only [ev,hg]; rfl
 simp only [X3,hev,hi];rw [Y6 ⟨by omega,by omega⟩,YZ]
theorem Zmw {j k n:Nat} {e:Env} {h:X2} {a:Operand} (ha:ev e a=some (.cp ((zpv (X22.map fun x=>.int .u8 x)).drop (j*1)))) (hj:X22[j]?=some ((k:Nat):Int)):X3 (.load false 1 a) e h n=some (.val (.int .u8 (k:Nat)),h):=by
 have hlt:j<X22.length:=(Y7.1 hj).1;have hl:(zpv (X22.map fun x=>.int .u8 x)).drop (j*1)=.val (.int .u8 (k:Nat)) :: (zpv (X22.map fun x=>.int .u8 x)).drop (j+1):=by
  rw [Y20,Y1n (by simp [zpv]; exact hlt)];congr 1;have:=(Y7.1 hj).2;simp [zpv,X3Z,this]
 simp only [X3,ha,hl];simp [X17]
theorem Zgp (x:Nat) (hx:x<18446744073709551616) (h:x≠0):X7 Tryz.prog 122 [.val (.int .u64 (x:Int))] (· = .val (.int .i64 (tz x:Nat))):=by
 have hk:=Z6p hx (Zao h);have hp:=ZP hk;have hneg:IntKind.u64.wrap (0-(x:Int))=((18446744073709551616-x:Nat):Int):=by
  rw [Y3d]; omega
 have hand:bits .and .u64 (x:Int) (IntKind.u64.wrap (0-(x:Int)))=((2 ^ tz x:Nat):Int):=by
  rw [hneg,Y28 _ _ hx (by omega),Zky hx h]
 have hmul:IntKind.u64.wrap (((2 ^ tz x:Nat):Int)*285870213051353865)=((285870213051353865*2 ^ tz x % 18446744073709551616:Nat):Int):=by
  rw [Y3d,Int.mul_comm]
  rfl
 obtain⟨t1,t2⟩:=ZiB ⟨tz x,hk⟩;simp only at t1 t2;refine Yp ok122 fun C hC=>?_
 iterate 8 (first|refine st ?_|(apply B<;>intro hb<;>try cases hb))
 refine ZbN rfl rfl rfl (v:=false) (by simp; exact h) ?_;(first|refine st ?_|(apply B<;>intro hb<;>try cases hb));(first|refine st ?_|(apply B<;>intro hb<;>try cases hb))
 iterate 6 (first|refine st ?_|(apply B<;>intro hb<;>try cases hb))
 refine Ze rfl rfl rfl hand ?_;refine Ze rfl rfl rfl hmul ?_;refine Ze rfl rfl rfl (v:=((285870213051353865*2 ^ tz x % 18446744073709551616 / 288230376151711744:Nat):Int)) ?_ ?_
 . show Int.fdiv _ (2 ^ 58) = _;rw [Z9f]
 refine Qo (ZmV rfl rfl t1) ?_;refine Qo (Zmw rfl t2) ?_;refine Ze rfl rfl rfl (Y0v _ ⟨by omega,by omega⟩) ?_;refine go ?_;exact Z8 rfl Yt rfl
end
section
open Go.RowKit
attribute [local irreducible] aw Xr dK jw
def mem (N:Nat):List Nat:=(List.range 64).filter fun i=>N.testBit i
theorem ZY {N i:Nat} (hN:N<18446744073709551616):i∈mem N↔N.testBit i=true:=by
 simp only [mem,Y1f,Y1x];exact⟨fun h=>h.2,fun h=>⟨Z6p hN h,h⟩⟩
theorem Z8r (N:Nat):(mem N).Pairwise (· < ·):=List.Pairwise.filter _ List.pairwise_lt_range
theorem Z3T {N i:Nat} (h:i∈mem N):i<64:=by
 simp only [mem,Y1f,Y1x] at h; exact h.1
theorem Z2H (N:Nat):(mem N).length<=64:=by
 have:=Y1L (fun i=>N.testBit i) (List.range 64);simpa [mem] using this
theorem Zgq:∀ {l m:List Nat},l.Pairwise (· < ·)->m.Pairwise (· < ·)->(∀ x,x∈l↔x∈m)->l=m
 | [],[],_,_,_=>rfl
 | [],y :: m,_,_,h=>by have:=(h y).2 (by simp); cases this
 | x :: l,[],_,_,h=>by have:=(h x).1 (by simp); cases this
 | x :: l, y :: m, hl, hm, h => by
   rw [Y14] at hl hm;have hxy:x=y:=by
    have h1:=(h x).1 (by simp);have h2:=(h y).2 (by simp);rcases YD.1 h1 with h1|h1
    . exact h1
    . rcases YD.1 h2 with h2 | h2
      . exact h2.symm
      . have:=hm.1 x h1; have:=hl.1 y h2; omega
   subst hxy;congr 1;refine Zgq hl.2 hm.2 fun z=>?_;constructor
   . intro hz;rcases YD.1 ((h z).1 (by simp [hz])) with hz' | hz'
     . have:=hl.1 z hz; omega
     . exact hz'
   . intro hz;rcases YD.1 ((h z).2 (by simp [hz])) with hz' | hz'
     . have:=hm.1 z hz; omega
     . exact hz'
theorem Zdx:mem 0 = []:=by simp [mem]
theorem ZiC {y:Nat} (hy:y<18446744073709551616) (h:y≠0):mem y=tz y :: mem (y &&& (y-1)):=by
 have hlt:y &&& (y-1)<18446744073709551616:=Y02 Y1o hy;refine Zgq (Z8r y) ?_ fun z=>?_
 . rw [Y14];refine⟨fun z hz=>?_,Z8r _⟩;rw [ZY hlt,Z5s h] at hz;have h1:y.testBit z=true/\z≠tz y:=by simpa using hz
   have:=ZlN h h1.1;omega
 . rw [YD, ZY hy, ZY hlt, Z5s h];constructor
   . intro hz;by_cases he:z=tz y
     . exact .inl he
     . exact .inr (by simp [hz,he])
   . rintro (rfl | hz)
     . exact Zao h
     . have h1 : y.testBit z = true /\ z ≠ tz y := by simpa using hz
       exact h1.1
abbrev X7j (N:Nat):={ i:Nat // i∈mem N }
def X8y (N:Nat) (x:X7j N):List Value := [.int .i64 (x.val:Int)]
theorem Z1F (N:Nat):X7 Tryz.prog 64 [XG N] (· = .fn 121 [.cp [.vec (X4 (Xb N)) false]]):=by
 refine Yp ok64 fun C hC=>?_;refine Zm ?_;refine Z9 ?_;refine Z5 rfl rfl rfl ?_;refine go ?_;exact Z8 rfl ⟨⟨Z7 _,Yt⟩,Yt⟩ rfl
theorem ZiD {y:Nat} (hy:y<18446744073709551616):y &&& (y-1)<18446744073709551616:=Y02 Y1o hy
theorem ZiE {y:Nat} (h:y≠0):y &&& (y-1)<y:=Y02 Y2b (by omega)
theorem Z2x (N:Nat) (hN:N<18446744073709551616):X4L Tryz.prog 121 [.cp [.vec (X4 (Xb N)) false]] (X8y N) (fun xs=>xs.map (·.val)=mem N) (fun pre=>∃ t,pre.map (·.val)++t=mem N) (mem N).length:=by
 refine ZeL ok121 (Y0 rfl) fun Y hYN hYe hYs hYn=>?_;by_cases h0:N=0
 . subst h0;rw [ZL]
   repeat' (first
    | refine Z5q ?_
    | refine Z2m ?_
    | refine Z1W ?_
    | refine Z27 rfl ?_
    | refine Z3z ?_
    | refine Z51 ?_
    | refine Z61 ?_
    | refine Z8o ?_
    | refine Z2e (b:=true) rfl (fun _=>?_) (fun h=>by cases h)
    | refine Z2e (b:=false) rfl (fun h=>by cases h) (fun _=>?_))
   refine ZbZ (X:=Unit) (fun _=>True) (fun _=>0) (fun _=>[]) (fun _ => [(7,.val (.int .i64 ((0:Nat):Int))),(8,.val (.int .i64 0))]) () Yt rfl ⟨rfl,rfl,Yt⟩ ?_;rintro⟨⟩ -
   repeat' (first
    | refine Z5q ?_
    | refine Z2m ?_
    | refine Z1W ?_
    | refine Z27 rfl ?_
    | refine Z3z ?_
    | refine Z51 ?_
    | refine Z61 ?_
    | refine Z8o ?_
    | refine Z2e (b:=true) rfl (fun _=>?_) (fun h=>by cases h)
    | refine Z2e (b:=false) rfl (fun h=>by cases h) (fun _=>?_))
   exact⟨.inl rfl,Zdx.symm⟩
 rw [Z5r hN h0]
 repeat' (first
  | refine Z5q ?_
  | refine Z2m ?_
  | refine Z1W ?_
  | refine Z27 rfl ?_
  | refine Z3z ?_
  | refine Z51 ?_
  | refine Z61 ?_
  | refine Z8o ?_
  | refine Z2e (b:=true) rfl (fun _=>?_) (fun h=>by cases h)
  | refine Z2e (b:=false) rfl (fun h=>by cases h) (fun _=>?_))
 refine ZbZ (X:=Bool×List (X7j N)) (fun x=>(x.1=true->x.2.map (·.val)=mem N)/\(x.1=false->x.2 = [])) (fun x=>if x.1 then 0 else 1) (fun x=>x.2)
  (fun x => [(0,.val (.func (.yield Y.l) #[] #[])),(6,.vec [[.val (.int .u64 (N:Int))]] false),(7,.val (.int .i64 ((1:Nat):Int))),(8,.val (.int .i64 (if x.1 then 1 else 0)))]) (false,[]) ⟨by simp,by simp⟩ rfl ⟨rfl,rfl,rfl,rfl,Yt⟩ ?_
 rintro⟨b,pre⟩ ⟨hb1,hb2⟩;simp only at hb1 hb2;cases b with
 | true =>
   repeat' (first
    | refine Z5q ?_
    | refine Z2m ?_
    | refine Z1W ?_
    | refine Z27 rfl ?_
    | refine Z3z ?_
    | refine Z51 ?_
    | refine Z61 ?_
    | refine Z8o ?_
    | refine Z2e (b:=true) rfl (fun _=>?_) (fun h=>by cases h)
    | refine Z2e (b:=false) rfl (fun h=>by cases h) (fun _=>?_))
   exact⟨.inl rfl,hb1 rfl⟩
 | false =>
   obtain rfl:=hb2 rfl
   repeat' (first
    | refine Z5q ?_
    | refine Z2m ?_
    | refine Z1W ?_
    | refine Z27 rfl ?_
    | refine Z3z ?_
    | refine Z51 ?_
    | refine Z61 ?_
    | refine Z8o ?_
    | refine Z2e (b:=true) rfl (fun _=>?_) (fun h=>by cases h)
    | refine Z2e (b:=false) rfl (fun h=>by cases h) (fun _=>?_))
   refine ZbZ (X:=Nat×List (X7j N)) (fun x=>x.1<18446744073709551616/\x.2.map (·.val)++mem x.1=mem N) (fun x=>x.1) (fun x=>x.2)
    (fun x => [(0,.val (.func (.yield Y.l) #[] #[])),(3,.val (.int .i64 0)),(4,.val (.int .u64 (x.1:Int))),(6,.vec [[.val (.int .u64 (N:Int))]] false),(7,.val (.int .i64 ((1:Nat):Int))),(8,.val (.int .i64 0))]) (N,[]) ⟨hN,by simp⟩ rfl ⟨rfl,rfl,rfl,rfl,rfl,rfl,Yt⟩ ?_
   rintro⟨y,pre⟩ ⟨hy,hpre⟩;simp only at hy hpre;refine Z5q ?_;refine Z5q ?_;refine Z2m ?_;refine Z27 rfl ?_;refine Z27 rfl ?_;refine Z1W ?_;by_cases hy0:y=0
   . subst hy0;rw [Zdx,Y0p] at hpre
     repeat' (first
      | refine Z5q ?_
      | refine Z2m ?_
      | refine Z1W ?_
      | refine Z27 rfl ?_
      | refine Z3z ?_
      | refine Z51 ?_
      | refine Z61 ?_
      | refine Z8o ?_
      | refine Z2e (b:=true) rfl (fun _=>?_) (fun h=>by cases h)
      | refine Z2e (b:=false) rfl (fun h=>by cases h) (fun _=>?_))
     exact⟨(true,pre),⟨fun _=>hpre,fun h=>by cases h⟩,by simp,rfl,rfl,rfl,rfl,rfl,Yt⟩
   . have hne : ((y : Int) != 0) = true := by simp; exact hy0
     have hcond:∀ {e:Env},e 14=some (.val (.bool ((y:Int) != 0)))->ev e (.tmp 14)=some (.val (.bool true)):=fun h=>by rw [hne] at h; exact h
     refine Z2e (b:=true) (hcond rfl) (fun _=>?_) (fun h=>by cases h);rw [ZiC hy hy0] at hpre;have hmem:tz y∈mem N:=by rw [<- hpre]; simp
     have hlt:=Z3T hmem;have hlen:pre.length<(mem N).length:=by rw [<- hpre]; simp
     have hsum:IntKind.i64.wrap (IntKind.i64.wrap (64*0)+((tz y:Nat):Int))=((tz y:Nat):Int):=by
      rw [show IntKind.i64.wrap (64*0)=0 from rfl,Int.zero_add];exact Y0v _ ⟨by omega,by omega⟩
     refine Z51 ?_;refine Z5q ?_;refine Z3z ?_;refine ZiA (al := [_,_,_,_,_,_]) (d1:=25) (d2:=26) ⟨tz y,hmem⟩ ?_;refine Z27 rfl ?_;refine Z27 rfl ?_;refine Z27 rfl ?_;refine Z27 rfl ?_;refine Zgo (Zgp y hy hy0) rfl rfl rfl ⟨Yt,Yt⟩ ?_;refine Z27 (p:=.val (.int .i64 ((tz y:Nat):Int))) ?_ ?_
     . show some (PV.val (Value.int .i64 (IntKind.i64.wrap (IntKind.i64.wrap (64 * 0) + ((tz y : Nat) : Int))))) = _;rw [hsum]
     refine Z1W ⟨rfl,rfl,by rw [hYe]; rfl,by rw [hYN]; exact hlen,?_,?_⟩
     . rw [hYs];exact⟨mem (y &&& (y-1)),by rw [Y0r,YT]; exact hpre⟩
     have hand:bits .and .u64 (y:Int) (IntKind.u64.wrap ((y:Int)-1))=((y &&& (y-1):Nat):Int):=by
      rw [Y3d,show ((y:Int)-1) % 18446744073709551616=((y-1:Nat):Int) by omega];exact Y28 _ _ hy (by omega)
     refine Z2m ?_;refine Z27 rfl ?_;refine Z27 rfl ?_;refine Z27 rfl ?_;refine Z27 (p:=.val (.int .u64 ((y &&& (y-1):Nat):Int))) ?_ ?_
     . show some (PV.val (Value.int .u64 (bits .and .u64 (y : Int) (IntKind.u64.wrap ((y : Int) - 1))))) = _;rw [hand]
     refine Z27 rfl ?_;refine Z1W ?_;exact⟨(y &&& (y-1),pre ++ [⟨tz y,hmem⟩]),⟨ZiD hy,by rw [Y0r,YT]; exact hpre⟩,ZiE hy0,rfl,rfl,rfl,rfl,rfl,rfl,rfl,Yt⟩
def Xe (l:List Nat):List Int:=l.map fun (x:Nat)=>(x:Int)
end
section
open Go.RowKit
abbrev Pr:=Nat×Nat
def prC (p:Pr):List PV := [.val (.int .i64 (p.1:Int)),.val (.int .i64 (p.2:Int))]
theorem Z4F (p:Pr):X5 (prC p):=⟨Yt,Yt,Yt⟩
inductive Up (l:List Pr):Nat->Nat->Prop
 | one {a b:Nat} (h:(a,b)∈l):Up l a b
 | more {a b c:Nat} (h:Up l a b) (k:(b,c)∈l):Up l a c
theorem ZlO {l:List Pr} {a b:Nat}:Up l a b↔∃ c,(c,b)∈l/\(a=c \/ Up l a c):=by
 constructor
 . intro h;cases h with
   | one h=>exact⟨a,h,.inl rfl⟩
   | more h k=>exact⟨_,k,.inr h⟩
 . rintro ⟨c, h, rfl | k⟩
   . exact .one h
   . exact .more k h
def XN (l:List Pr):Prop:=∀ p∈l,p.1<64/\p.2<64
theorem Up.lt {l:List Pr} (hl:XN l) {a b:Nat} (h:Up l a b):a<64/\b<64:=by
 induction h with
 | one h=>exact hl _ h
 | more _ k ih=>exact⟨ih.1,(hl _ k).2⟩
def Acy (l:List Pr):Prop:=∃ rank:Nat->Nat,∀ p∈l,rank p.1<rank p.2
theorem Acy.sub {l m:List Pr} (h:Acy m) (hs:∀ p∈l,p∈m):Acy l:=by
 obtain⟨r,hr⟩:=h;exact⟨r,fun p hp=>hr p (hs p hp)⟩
def ofP (p:Nat->Bool):Nat->Nat
 | 0=>0
 | k+1=>if p k then ofP p k ||| 2 ^ k else ofP p k
theorem Z9h (p:Nat->Bool):∀ k i,(ofP p k).testBit i=(decide (i<k)&&p i)
 | 0,i=>by simp [ofP]
 | k + 1, i => by
   have ih:=Z9h p k i;unfold ofP;by_cases hk:i=k
   . subst hk;cases hp:p i with
     | true=>rw [Y6 rfl,Y00,Y2m]; simp
     | false=>rw [Y8 (by decide),ih]; simp
   . have h2 : decide (i < k + 1) = decide (i < k) := Y27.2 (by omega);rw [h2]
     split
     . rw [Y00,Nat.testBit_two_pow_of_ne (by omega),Y4T,ih]
     . exact ih
theorem ZjX (p:Nat->Bool):∀ k,ofP p k<2 ^ k
 | 0=>by simp [ofP]
 | k + 1 => by
   have:=ZjX p k;have h2:2 ^ (k+1)=2 ^ k+2 ^ k:=by rw [Y23]; omega
   unfold ofP
   split
   . exact Y2n (by omega) (by omega)
   . omega
theorem Zgr (p:Nat->Bool):ofP p 64<18446744073709551616:=ZjX p 64
theorem X6n {a b:Nat} (ha:a<18446744073709551616) (hb:b<18446744073709551616) (h:∀ i,i<64->a.testBit i=b.testBit i):a=b:=by
 apply YE;intro i;by_cases hi:i<64
 . exact h i hi
 . have e : ∀ {x : Nat}, x < 18446744073709551616 -> x.testBit i = false := fun {x} hx => Y1R (YY hx (YJ (n := 2) (by decide) (show 64 <= i by omega)));rw [e ha,e hb]
open Classical in
noncomputable def abv (l:List Pr) (b:Nat):Nat:=ofP (fun a=>decide (Up l a b)) 64
open Classical in
noncomputable def bel (l:List Pr) (a:Nat):Nat:=ofP (fun b=>decide (Up l a b)) 64
theorem Z7e {l:List Pr} (hl:XN l) (a b:Nat):(abv l b).testBit a=true↔Up l a b:=by
 unfold abv;rw [Z9h];simp only [Y0k,Y0n];exact⟨fun h=>h.2,fun h=>⟨(h.lt hl).1,h⟩⟩
theorem Zgs {l:List Pr} (hl:XN l) (a b:Nat):(bel l a).testBit b=true↔Up l a b:=by
 unfold bel;rw [Z9h];simp only [Y0k,Y0n];exact⟨fun h=>h.2,fun h=>⟨(h.lt hl).2,h⟩⟩
theorem Z7f (l:List Pr) (b:Nat):abv l b<18446744073709551616:=Zgr _
theorem Zgt (l:List Pr) (a:Nat):bel l a<18446744073709551616:=Zgr _
structure X3o (l:List Pr) (S:List Nat):Prop where
 nodup:S.Nodup
 lt:∀ x∈S,x<64
 pred:∀ (t:Nat) (ht:t<S.length) (a:Nat),(a,S[t])∈l->a∈S.take t
theorem X3o.nil (l:List Pr):X3o l []:=⟨Y3x,fun _ h=>(by cases h),fun t ht=>absurd ht (Ye t)⟩
theorem X3o.closed {l:List Pr} {S:List Nat} (h:X3o l S) {a b:Nat} (hp:(a,b)∈l) (hb:b∈S):a∈S:=by
 obtain⟨t,ht,rfl⟩:=Y1d hb;exact YM (h.pred t ht a hp)
theorem X3o.snoc {l:List Pr} {S:List Nat} (h:X3o l S) {k:Nat} (hk:k ∉ S) (h64:k<64) (hp:∀ a,(a,k)∈l->a∈S):X3o l (S ++ [k]):=by
 refine⟨?_,?_,?_⟩
 . rw [Y2I];exact⟨h.nodup,by simp,fun a ha b hb e=>by rw [Y0g] at hb; subst hb; subst e; exact hk ha⟩
 . intro x hx;rcases Y0h.1 hx with hx|hx
   . exact h.lt x hx
   . rw [Y0g] at hx; omega
 . intro t ht a ha;rw [Y0e,Y0s] at ht;by_cases htl:t<S.length
   . rw [List.getElem_append_left htl] at ha;rw [Y3b (by omega)];exact h.pred t htl a ha
   . have e : t = S.length := by omega
     subst e;rw [List.getElem_append_right (Y0m _)] at ha;simp only [Y1W,List.getElem_singleton] at ha;rw [List.take_left']
     . exact hp a ha
     . rfl
theorem Z2y:∀ (n:Nat) (S:List Nat),S.Nodup->(∀ x∈S,x<n)->S.length<=n
 | 0, S, _, h => by
   cases S with
   | nil=>exact Y0m _
   | cons a S=>exact absurd (h a (Y0t ..)) (Ye a)
 | n + 1, S, hn, h => by
   have hlen:=List.length_erase (a:=n) (l:=S);have ih:=Z2y n (S.erase n) (hn.sublist List.erase_sublist) fun x hx=>by
    have h1:=h x (List.mem_of_mem_erase hx);have h2:x≠n:=fun e=>by rw [e] at hx; exact (List.Nodup.mem_erase_iff hn).1 hx |>.1 rfl
    omega
   split at hlen<;>omega
theorem X3o.len {l:List Pr} {S:List Nat} (h:X3o l S):S.length<=64:=Z2y 64 S h.nodup h.lt
theorem X3o.all {l:List Pr} {S:List Nat} (h:X3o l S) (h64:S.length=64) {j:Nat} (hj:j<64):j∈S:=by
 apply YU;intro hno;have:=Z2y 64 (j :: S) (Y2Z.2 ⟨hno,h.nodup⟩) fun x hx=>by
  rcases YD.1 hx with rfl|hx
  . exact hj
  . exact h.lt x hx
 rw [Y04] at this;omega
theorem X8J {l:List Pr} (hl:XN l) (hacy:Acy l) {S:List Nat} (h:X3o l S) (hlt:S.length<64):∃ j,j<64/\j ∉ S/\∀ a,(a,j)∈l->a∈S:=by
 obtain⟨rank,hr⟩:=hacy;have key:∀ m j,rank j<=m->j<64->j ∉ S->∃ j,j<64/\j ∉ S/\∀ a,(a,j)∈l->a∈S:=by
  intro m
  induction m with
  | zero =>
    intro j hm hj hno;exact⟨j,hj,hno,fun a ha=>by have:=hr _ ha; simp only at this; omega⟩
  | succ m ih =>
    intro j hm hj hno;by_cases hall:∀ a,(a,j)∈l->a∈S
    . exact⟨j,hj,hno,hall⟩
    . obtain ⟨a, ha⟩ := Classical.not_forall.1 hall;obtain⟨ha,hna⟩:=Classical.not_imp.1 ha;have h1:=hr _ ha;simp only at h1;exact ih a (by omega) (hl _ ha).1 hna
 have hex:∃ j,j<64/\j ∉ S:=by
  apply YU;intro hno;have hall:∀ j,j<64->j∈S:=fun j hj=>YU fun h=>hno ⟨j,hj,h⟩;have hp:(List.range 64).Perm S:=(List.perm_ext_iff_of_nodup List.nodup_range h.nodup).2 fun x=>by
   rw [Y1x];exact⟨hall x,h.lt x⟩
  have:=hp.length_eq;rw [Y2J] at this;omega
 obtain⟨j,hj,hno⟩:=hex;exact key _ j (Y0m _) hj hno
def X1F (l:List Pr) (S:List Nat) (j:Nat):Int:=if j∈S then -1 else (l.countP fun p=>p.2 == j && !decide (p.1∈S):Nat)
def X1m (l:List Pr) (S:List Nat) (k i j:Nat):Int:=if j∈S ++ [k] then -1 else ((l.take i).countP (fun p=>p.2 == j && !decide (p.1∈S ++ [k]))+(l.drop i).countP (fun p=>p.2 == j && !decide (p.1∈S)):Nat)
theorem Z8s {l:List Pr} {S:List Nat} {j:Nat}:X1F l S j=0↔j ∉ S/\∀ a,(a,j)∈l->a∈S:=by
 unfold X1F
 split
 . rename_i h; exact⟨fun e=>absurd e (by decide),fun e=>absurd h e.1⟩
 . rename_i h;rw [show ((0:Int))=((0:Nat):Int) from rfl,Y2t,List.countP_eq_zero];constructor
   . intro h2;refine⟨h,fun a ha=>?_⟩;have:=h2 _ ha;simpa using this
   . rintro ⟨-, h2⟩ p hp;by_cases e:p.2=j
     . have := h2 p.1 (by rw [<- e]; exact hp);simp [this]
     . simp [e]
theorem ZeM (l:List Pr) (S:List Nat) (k j:Nat):X1m l S k 0 j=if j=k then -1 else X1F l S j:=by
 unfold X1m X1F;rw [Y1r,Y12,Y4C,Y15];by_cases hk:j=k
 . rw [Y6 hk,Y6 (by rw [hk]; simp)]
 . rw [Y8 hk];by_cases hj:j∈S
   . rw [Y6 hj,Y6 (Y2M _ hj)]
   . rw [Y8 hj,Y8 (by simp [hj,hk])]
theorem Zgu (l:List Pr) (S:List Nat) (k j:Nat):X1m l S k l.length j=X1F l (S ++ [k]) j:=by
 unfold X1m X1F;rw [Y0q,Y3N,Y4C,Y1k]
theorem ZeN {l:List Pr} {S:List Nat} {k i:Nat} (hi:i<l.length) (j:Nat) (hT:X3o l S) (hk:k ∉ S) (hp:∀ a,(a,k)∈l->a∈S) :
 X1m l S k (i+1) j=if l[i].1=k/\j=l[i].2 then X1m l S k i j-1 else X1m l S k i j:=by
 have htk:l.take (i+1)=l.take i ++ [l[i]]:=by rw [YW,Y0c hi]; rfl
 have hdr:l.drop i=l[i] :: l.drop (i+1):=Y1n hi;have hmem:l[i]∈l:=Y0j hi;unfold X1m;rw [htk,hdr,List.countP_append,List.countP_cons,Y4C,Y15,List.countP_cons];generalize l[i]=p at hmem;by_cases hpk:p.1=k
 . have hkk : (k, p.2) ∈ l := by rw [<- hpk]; exact hmem
   have hp2:p.2 ∉ S ++ [k]:=by
    rw [Y0h,Y0g];rintro (h|h)
    . exact hk (hT.closed hkk h)
    . rw [h] at hkk; exact hk (hp k hkk)
   by_cases hj:j=p.2
   . have e1 : (p.2 == j && !decide (p.1 ∈ S ++ [k])) = false := by rw [hpk]; simp
     have e2:(p.2 == j && !decide (p.1∈S))=true:=by rw [hpk,hj]; simp [hk]
     have hjn:¬ j∈S ++ [k]:=hj▸hp2;rw [e1,e2,Y6 (show p.1=k/\j=p.2 from ⟨hpk,hj⟩),Y8 hjn,Y8 hjn,Y8 Bool.false_ne_true,Y6 rfl];omega
   . rw [Y8 (show ¬ (p.1 = k /\ j = p.2) from fun h => hj h.2)];have e:(p.2 == j)=false:=by rw [Y2p]; exact Y2L hj
     simp only [e,Y2Q,Y2e,Y26,Y1k]
 . rw [Y8 (show ¬ (p.1 = k /\ j = p.2) from fun h => hpk h.1)];have e:decide (p.1∈S ++ [k])=decide (p.1∈S):=Y27.2 (by rw [Y0h,Y0g]; exact⟨fun h=>h.elim id fun h=>absurd h hpk,.inl⟩);rw [e];by_cases hjn:j∈S ++ [k]
   . rw [Y6 hjn,Y6 hjn]
   . rw [Y8 hjn,Y8 hjn]; omega
theorem ZiF (l:List Pr) (S:List Nat) (k i j:Nat) : -1<=X1m l S k i j/\X1m l S k i j<=l.length:=by
 unfold X1m;have h1:=Y40 (p:=fun p:Pr=>p.2 == j && !decide (p.1∈S ++ [k])) (l:=l.take i);have h2:=Y40 (p:=fun p:Pr=>p.2 == j && !decide (p.1∈S)) (l:=l.drop i);rw [Y0o] at h1;rw [YV] at h2
 split<;>omega
def X3t (l:List Pr) (j:Nat):Nat:=l.countP fun p=>p.2 == j
theorem Zgv {l:List Pr} {i:Nat} (hi:i<l.length) (j:Nat):X3t (l.take (i+1)) j=if j=l[i].2 then X3t (l.take i) j+1 else X3t (l.take i) j:=by
 have htk:l.take (i+1)=l.take i ++ [l[i]]:=by rw [YW,Y0c hi]; rfl
 unfold X3t;rw [htk,List.countP_append,List.countP_singleton];by_cases h:j=l[i].2
 . rw [Y6 h]; simp [h]
 . rw [Y8 h]; simp [Y2L h]
theorem ZiG (l:List Pr) (j:Nat):X1F l [] j=(X3t l j:Nat):=by
 unfold X1F X3t;simp
theorem Zkz (l:List Pr) (j:Nat):X3t l j<=l.length:=Y40
def tab (f:Nat->List PV):List (List PV):=(List.range 64).map f
theorem Z15 (f:Nat->List PV):(tab f).length=64:=by simp [tab]
theorem Z3a {f:Nat->List PV} {i:Nat} (hi:i<64):(tab f).getD i []=f i:=by
 rw [Y0b,tab,Y0y,Y3p hi]; rfl
theorem Zgw {f:Nat->List PV} {i:Nat} (r:List PV) (hi:i<64):(tab f).set i r=tab fun j=>if j=i then r else f j:=by
 apply Y4j;intro j;rw [Y1p,Z15];unfold tab;rw [Y0y,Y0y];by_cases hj:j<64
 . rw [Y3p hj];by_cases e:i=j
   . subst e; simp [hi]
   . rw [Y8 e]; simp [Y2L e]
 . rw [Y2F (by simpa using hj)];by_cases e:i=j
   . subst e; exact absurd hi hj
   . rw [Y8 e]; rfl
theorem Z48 {f g:Nat->List PV} (h:∀ j,j<64->f j=g j):tab f=tab g:=Y2s fun j hj=>h j (Y1x.1 hj)
theorem Z1G {f:Nat->List PV} (h:∀ j,X5 (f j)):X1 (tab f):=by
 refine (Z2j _ _).2 fun r hr=>?_;obtain⟨j,_,rfl⟩:=Y0i.1 hr;exact h j
theorem ZkA (r:List PV):List.replicate 64 r=tab fun _=>r:=by rw [tab,List.map_const',Y2J]
def X2B (f:Nat->Int) (j:Nat):List PV := [.val (.int .i64 (f j))]
theorem Z5t (f:Nat->Int) (j:Nat):X5 (X2B f j):=⟨Yt,Yt⟩
end
end Go.Proofs.YtoolafpiaobphaaGreatDoor
