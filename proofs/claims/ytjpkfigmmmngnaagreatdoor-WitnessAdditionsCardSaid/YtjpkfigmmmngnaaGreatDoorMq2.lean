/-
  Merged from the texts that this claim's theorem needs, part 3 of 8. No statement of the seat is proved here.
-/
import Derived.IntWalk
import Derived.KernelRfl
import Derived.Test.YtjpkfigmmmngnaaGreatDoorChecked
import Derived.WalkSmall
import Derived.Test.YtjpkfigmmmngnaaGreatDoorMq1
set_option linter.unusedSimpArgs false
set_option linter.unusedVariables false
set_option linter.unusedSectionVars false
namespace Go.Proofs.YtjpkfigmmmngnaaGreatDoor
set_option maxRecDepth 100000
theorem mixed : Tryz.prog.follows .mixedOrders = true := by kernel_rfl
abbrev tT (n : Nat) : Operand := .tmp n
abbrev oO (d : Nat) (p : AOp) : AOper := ⟨some d, p, none⟩
abbrev oT (g d : Nat) (p : AOp) : AOper := ⟨some d, p, some (g, true)⟩
abbrev oF (g d : Nat) (p : AOp) : AOper := ⟨some d, p, some (g, false)⟩
abbrev oM (d a : Nat) : AOper := ⟨some d, .mov (.tmp a), none⟩
abbrev nS : Value := .slice none 0 0
abbrev kI (n : Int) : Operand := .const (.int .i64 n)
abbrev kT : Operand := .const (.bool true)
abbrev kF : Operand := .const (.bool false)
abbrev kC (f : FuncId) (l : List Operand) : AOp := .call (.func f) l
abbrev sQ (x y : ACode) : ACode := .seq x y
def ir3 : ACode := (sQ (.region [oO 5 (.box (tT 2)),oO 6 (.alloc [(.bool false)])]) (sQ (sQ (.region [oO 23 (kC 12 []),oO 24 (.una .not (tT 23))]) (.cond (tT 24) (sQ (.region [⟨none,.store 1 (tT 6) kF,
 none⟩]) .ret) .skip)) (sQ (.region [oM 25 0,oO 26 (kC 14 [(tT 25)]),oO 27 (kC 13 [(tT 26)]),oO 7 (.alloc [(.int .u8 0),(.int .i64 0),nS,nS]),⟨none,.store 4 (tT 7) (tT 27),none⟩]) (sQ (.region [oM 29 1,
 oO 30 (kC 15 [(tT 29)]),oM 28 30,oO 31 (.extract (tT 28) 0),oO 32 (.extract (tT 28) 1),oO 8 (.alloc [(.pointer none)]),⟨none,.store 1 (tT 8) (tT 31),none⟩,oM 9 32]) (sQ (.draw [⟨0,oO 33 (.iaddrA 2 1 (tT 5) (kI 0)),
 0,0,false⟩,⟨1,oO 34 (.load false 1 (tT 33)),1,0,false⟩,⟨2,oO 35 (.bin .and .num (tT 34) (.const (.int .u8 126))),3,0,false⟩,⟨3,oO 36 (.conv .u64 (tT 35)),7,0,false⟩,⟨4,oO 37 (kC 16 [(tT 36)]),15,0,false⟩,
 ⟨5,oO 38 (.iaddrA 2 1 (tT 5) (kI 1)),0,0,false⟩,⟨6,oO 39 (.load false 1 (tT 38)),32,0,false⟩,⟨7,oO 40 (.bin .and .num (tT 39) (.const (.int .u8 126))),96,0,false⟩,⟨8,oO 41 (.conv .u64 (tT 40)),224,0,false⟩,
 ⟨9,oO 42 (kC 16 [(tT 41)]),511,1,false⟩,⟨10,oO 10 (.alloc [nS]),0,0,false⟩,⟨11,oO 11 (.alloc [nS]),0,0,false⟩,⟨12,⟨none,.store 1 (tT 10) (tT 37),none⟩,4095,1,false⟩,⟨13,⟨none,.store 1 (tT 11) (tT 42),none⟩,
 8191,1,false⟩]) (sQ (.region [oO 43 (.mkfn 17 [(tT 7),(tT 8)]),oO 12 (.alloc [.nilFunc]),⟨none,.store 1 (tT 12) (tT 43),none⟩]) (sQ (.region [oO 45 (.load true 4 (tT 7)),oO 46 (.load true 1 (tT 10)),oO 47 (.load false 1 (tT 8)),
 oO 48 (kC 20 [(tT 45),(tT 46),(tT 47)]),oM 44 48,oO 49 (.extract (tT 44) 0),oO 50 (.extract (tT 44) 1),oM 13 49,oM 14 50]) (sQ (.region [oO 52 (.load true 4 (tT 7)),oO 53 (.load true 1 (tT 10)),oO 54 (.load true 1 (tT 11)),
 oO 55 (.load false 1 (tT 8)),oO 56 (kC 21 [(tT 52),(tT 53),(tT 54),(tT 55)]),oM 51 56,oO 57 (.extract (tT 51) 0),oO 58 (.extract (tT 51) 1),oM 15 57,oM 16 58]) (sQ (sQ (.region [oM 59 14,oO 60 (.bin .neq .num (tT 59) (kI 0)),
 oM 61 60,oT 61 62 (.mov (tT 14)),oT 61 63 (.bin .neq .num (tT 62) (kI 4)),oO 64 (.pick (tT 61) (tT 63) kF),oM 65 64,oF 65 66 (.mov (tT 16)),oF 65 67 (.bin .neq .num (tT 66) (kI 0)),oF 65 68 (.mov (tT 67)),
 oT 68 69 (.mov (tT 16)),oT 68 70 (.bin .neq .num (tT 69) (kI 4)),oF 65 71 (.pick (tT 68) (tT 70) kF),oO 72 (.pick (tT 65) kT (tT 71))]) (.cond (tT 72) (sQ (.region [⟨none,.store 1 (tT 6) kF,none⟩]) .ret) .skip)) (sQ (sQ (.region [oM 73 14,
 oO 74 (.bin .eql .num (tT 73) (kI 4)),oM 75 74,oT 75 76 (.load false 1 (tT 12)),oT 75 77 (.build [nS] []),oT 75 78 (.call (tT 76) [(tT 77)]),oO 79 (.pick (tT 75) (tT 78) kF),oM 80 79,oF 80 81 (.load false 1 (tT 12)),
 oF 80 82 (.load true 1 (tT 10)),oF 80 83 (.call (tT 81) [(tT 82)]),oF 80 84 (.mov (tT 13)),oF 80 85 (.len (tT 84)),oF 80 86 (.bin .eql .num (tT 85) (kI 1)),oF 80 87 (.mov (tT 86)),oT 87 88 (.mov (tT 13)),
 oT 87 89 (.iaddr 1 (tT 88) (kI 0)),oT 87 90 (.load true 1 (tT 89)),oT 87 91 (kC 22 [(tT 90)]),oF 80 92 (.pick (tT 87) (tT 91) kF),oF 80 93 (.bin .neq .bool (tT 83) (tT 92)),oO 94 (.pick (tT 80) kT (tT 93)),
 oM 95 94,oF 95 96 (.load false 1 (tT 12)),oF 95 97 (.load true 1 (tT 10)),oF 95 98 (.call (tT 96) [(tT 97)]),oF 95 99 (.mov (tT 15)),oF 95 100 (.len (tT 99)),oF 95 101 (.bin .eql .num (tT 100) (kI 1)),
 oF 95 102 (.mov (tT 101)),oT 102 103 (.mov (tT 15)),oT 102 104 (.iaddr 1 (tT 103) (kI 0)),oT 102 105 (.load true 1 (tT 104)),oT 102 106 (kC 22 [(tT 105)]),oF 95 107 (.pick (tT 102) (tT 106) kF),oF 95 108 (.bin .neq .bool (tT 98) (tT 107)),
 oO 109 (.pick (tT 95) kT (tT 108))]) (.cond (tT 109) (sQ (.region [⟨none,.store 1 (tT 6) kF,none⟩]) .ret) .skip)) (sQ (sQ (.region [oM 110 13,oO 111 (.len (tT 110)),oO 112 (.mov (kI 0))]) (.block 0 (.loop (sQ (.region [oO 113 (.bin .lss .num (tT 112) (tT 111))]) (sQ (.cond (tT 113) .skip (.exit 0)) (sQ (.block 1 (sQ (.region [oO 114 (.iaddr 1 (tT 110) (tT 112)),
 oO 115 (.load true 1 (tT 114)),oO 18 (.alloc [nS]),⟨none,.store 1 (tT 18) (tT 115),none⟩]) (sQ (sQ (.draw [⟨0,oO 116 (.load true 1 (tT 18)),0,0,false⟩,⟨1,oO 117 (.load true 1 (tT 10)),0,0,false⟩,⟨2,oO 118 (kC 23 [(tT 116),
 (tT 117)]),3,1,false⟩,⟨3,oO 119 (.una .not (tT 118)),7,1,false⟩,⟨4,oM 120 119,15,1,false⟩,⟨5,oF 120 121 (.load true 1 (tT 18)),31,0,false⟩,⟨6,oF 120 122 (kC 24 [(tT 121)]),63,0,false⟩,⟨7,oF 120 123 (.mov (tT 13)),
 31,0,false⟩,⟨8,oF 120 124 (.iaddr 1 (tT 123) (kI 0)),159,0,false⟩,⟨9,oF 120 125 (.load true 1 (tT 124)),415,0,false⟩,⟨10,oF 120 126 (kC 24 [(tT 125)]),1023,1,false⟩,⟨11,oF 120 127 (.bin .neq .num (tT 122) (tT 126)),
 2047,1,false⟩,⟨12,oO 128 (.pick (tT 120) kT (tT 127)),4095,1,false⟩,⟨13,oM 129 128,8191,1,false⟩,⟨14,oF 129 130 (.load false 1 (tT 12)),16383,0,false⟩,⟨15,oF 129 131 (.load true 1 (tT 10)),16383,0,false⟩,
 ⟨16,oF 129 132 (.load true 1 (tT 18)),16383,0,false⟩,⟨17,oF 129 133 (kC 25 [(tT 131),(tT 132)]),114687,0,false⟩,⟨18,oF 129 134 (.call (tT 130) [(tT 133)]),262143,1,false⟩,⟨19,oF 129 135 (.una .not (tT 134)),
 524287,1,false⟩,⟨20,oO 136 (.pick (tT 129) kT (tT 135)),1048575,1,false⟩]) (.cond (tT 136) (sQ (.region [⟨none,.store 1 (tT 6) kF,none⟩]) .ret) .skip)) (sQ (.region [oO 137 (.load true 1 (tT 18)),oO 138 (kC 26 [(tT 137)])]) (.block 2 (.range (tT 138) [139] [(19,
 (tT 139))] (.block 3 (sQ (.draw [⟨0,oO 140 (.load false 1 (tT 12)),0,0,false⟩,⟨1,oO 141 (.load true 1 (tT 10)),0,0,false⟩,⟨2,oO 142 (.load true 1 (tT 18)),0,0,false⟩,⟨3,oM 143 19,0,0,false⟩,⟨4,oO 144 (kC 27 [(tT 142),
 (tT 143)]),12,0,false⟩,⟨5,oO 145 (kC 25 [(tT 141),(tT 144)]),30,0,false⟩,⟨6,oO 146 (.call (tT 140) [(tT 145)]),63,1,false⟩]) (.cond (tT 146) (sQ (.region [⟨none,.store 1 (tT 6) kF,none⟩]) .ret) .skip))))))))) (.region [oO 147 (.bin .add .num (tT 112) (kI 1)),
 oM 112 147]))))))) (sQ (sQ (.region [oM 148 15,oO 149 (.len (tT 148)),oO 150 (.mov (kI 0))]) (.block 4 (.loop (sQ (.region [oO 151 (.bin .lss .num (tT 150) (tT 149))]) (sQ (.cond (tT 151) .skip (.exit 4)) (sQ (.block 5 (sQ (.region [oO 152 (.iaddr 1 (tT 148) (tT 150)),
 oO 153 (.load true 1 (tT 152)),oO 21 (.alloc [nS]),⟨none,.store 1 (tT 21) (tT 153),none⟩]) (sQ (sQ (.draw [⟨0,oO 154 (.load true 1 (tT 21)),0,0,false⟩,⟨1,oO 155 (.load true 1 (tT 11)),0,0,false⟩,⟨2,oO 156 (kC 23 [(tT 154),
 (tT 155)]),3,1,false⟩,⟨3,oO 157 (.una .not (tT 156)),7,1,false⟩,⟨4,oM 158 157,15,1,false⟩,⟨5,oF 158 159 (.load true 1 (tT 21)),31,0,false⟩,⟨6,oF 158 160 (.load true 1 (tT 10)),31,0,false⟩,⟨7,oF 158 161 (kC 28 [(tT 159),
 (tT 160)]),127,1,false⟩,⟨8,oO 162 (.pick (tT 158) kT (tT 161)),255,1,false⟩,⟨9,oM 163 162,511,1,false⟩,⟨10,oF 163 164 (.load true 1 (tT 21)),1023,0,false⟩,⟨11,oF 163 165 (kC 24 [(tT 164)]),2047,0,false⟩,
 ⟨12,oF 163 166 (.mov (tT 15)),1023,0,false⟩,⟨13,oF 163 167 (.iaddr 1 (tT 166) (kI 0)),5119,0,false⟩,⟨14,oF 163 168 (.load true 1 (tT 167)),13311,0,false⟩,⟨15,oF 163 169 (kC 24 [(tT 168)]),32767,1,false⟩,
 ⟨16,oF 163 170 (.bin .neq .num (tT 165) (tT 169)),65535,1,false⟩,⟨17,oO 171 (.pick (tT 163) kT (tT 170)),131071,1,false⟩,⟨18,oM 172 171,262143,1,false⟩,⟨19,oF 172 173 (.load false 1 (tT 12)),524287,0,false⟩,
 ⟨20,oF 172 174 (.load true 1 (tT 10)),524287,0,false⟩,⟨21,oF 172 175 (.load true 1 (tT 21)),524287,0,false⟩,⟨22,oF 172 176 (kC 29 [(tT 174),(tT 175)]),3670015,0,false⟩,⟨23,oF 172 177 (.call (tT 173) [(tT 176)]),
 8388607,1,false⟩,⟨24,oF 172 178 (.una .not (tT 177)),16777215,1,false⟩,⟨25,oO 179 (.pick (tT 172) kT (tT 178)),33554431,1,false⟩]) (.cond (tT 179) (sQ (.region [⟨none,.store 1 (tT 6) kF,none⟩]) .ret) .skip)) (sQ (.region [oO 180 (.load true 1 (tT 21)),
 oO 181 (kC 26 [(tT 180)])]) (.block 6 (.range (tT 181) [182] [(22,(tT 182))] (.block 7 (sQ (.draw [⟨0,oO 183 (.load false 1 (tT 12)),0,0,false⟩,⟨1,oO 184 (.load true 1 (tT 10)),0,0,false⟩,⟨2,oO 185 (.load true 1 (tT 21)),
 0,0,false⟩,⟨3,oM 186 22,0,0,false⟩,⟨4,oO 187 (kC 27 [(tT 185),(tT 186)]),12,0,false⟩,⟨5,oO 188 (kC 29 [(tT 184),(tT 187)]),30,0,false⟩,⟨6,oO 189 (.call (tT 183) [(tT 188)]),63,1,false⟩]) (.cond (tT 189) (sQ (.region [⟨none,
 .store 1 (tT 6) kF,none⟩]) .ret) .skip))))))))) (.region [oO 190 (.bin .add .num (tT 150) (kI 1)),oM 150 190]))))))) (sQ (.region [⟨none,.store 1 (tT 6) kT,none⟩]) .ret)))))))))))))
theorem ok3 : FnOk Tryz.prog 3 191 ir3 [.cell 6 false 1] := Z8 mixed Tryz.func3 (by kernel_rfl) Tryz.ntmps3 (by kernel_rfl) (by kernel_rfl)
def ir5 : ACode := (sQ (.region [oO 6 (.mov kF)]) (sQ (sQ (.region [oO 14 (kC 12 []),oO 15 (.una .not (tT 14))]) (.cond (tT 15) (sQ (.region [oO 6 (.mov kF)]) .ret) .skip)) (sQ (.region [oM 16 0,oO 17 (kC 14 [(tT 16)]),
 oO 7 (.alloc [(.int .i64 0),(.int .i64 0),nS,nS]),⟨none,.store 4 (tT 7) (tT 17),none⟩]) (sQ (.region [oM 19 1,oO 20 (kC 15 [(tT 19)]),oM 18 20,oO 21 (.extract (tT 18) 0),oO 22 (.extract (tT 18) 1),oM 8 21,
 oM 9 22]) (sQ (.region [oO 24 (.load true 4 (tT 7)),oO 25 (kC 13 [(tT 24)]),oM 26 2,oO 27 (.bin .and .num (tT 26) (.const (.int .u64 126))),oO 28 (kC 16 [(tT 27)]),oM 29 8,oO 30 (kC 20 [(tT 25),(tT 28),
 (tT 29)]),oM 23 30,oO 31 (.extract (tT 23) 0),oO 32 (.extract (tT 23) 1),oM 10 31,oM 11 32]) (sQ (.region [oO 34 (.load true 4 (tT 7)),oM 35 9,oM 36 2,oO 37 (.bin .and .num (tT 36) (.const (.int .u64 126))),
 oO 38 (kC 33 [(tT 34),(tT 35),(tT 37)]),oM 33 38,oO 39 (.extract (tT 33) 0),oO 40 (.extract (tT 33) 1),oM 12 39,oM 13 40]) (sQ (.region [oM 41 11,oM 42 13,oO 43 (.bin .eql .num (tT 41) (tT 42)),oM 44 43,
 oT 44 45 (.mov (tT 10)),oT 44 46 (.mov (tT 12)),oT 44 47 (kC 34 [(tT 45),(tT 46)]),oO 48 (.pick (tT 44) (tT 47) kF),oM 6 48]) .ret)))))))
theorem ok5 : FnOk Tryz.prog 5 49 ir5 [.tmp 6] := Z8 mixed Tryz.func5 (by kernel_rfl) Tryz.ntmps5 (by kernel_rfl) (by kernel_rfl)
def ir6 : ACode := (sQ (.region [oO 5 (.box (tT 2)),oO 6 (.mov kF)]) (sQ (sQ (.region [oO 16 (kC 12 []),oO 17 (.una .not (tT 16))]) (.cond (tT 17) (sQ (.region [oO 6 (.mov kF)]) .ret) .skip)) (sQ (.region [oM 18 0,
 oO 19 (kC 14 [(tT 18)]),oO 7 (.alloc [(.int .i64 0),(.int .i64 0),nS,nS]),⟨none,.store 4 (tT 7) (tT 19),none⟩]) (sQ (.region [oM 21 1,oO 22 (kC 15 [(tT 21)]),oM 20 22,oO 23 (.extract (tT 20) 0),oO 24 (.extract (tT 20) 1),
 oM 8 23,oM 9 24]) (sQ (.draw [⟨0,oO 25 (.iaddrA 2 1 (tT 5) (kI 0)),0,0,false⟩,⟨1,oO 26 (.load false 1 (tT 25)),1,0,false⟩,⟨2,oO 27 (.bin .and .num (tT 26) (.const (.int .u8 126))),3,0,false⟩,⟨3,oO 28 (.conv .u64 (tT 27)),
 7,0,false⟩,⟨4,oO 29 (.iaddrA 2 1 (tT 5) (kI 1)),0,0,false⟩,⟨5,oO 30 (.load false 1 (tT 29)),16,0,false⟩,⟨6,oO 31 (.bin .and .num (tT 30) (.const (.int .u8 126))),48,0,false⟩,⟨7,oO 32 (.conv .u64 (tT 31)),
 112,0,false⟩,⟨8,oM 10 28,15,0,false⟩,⟨9,oM 11 32,511,1,false⟩]) (sQ (.region [oO 34 (.load true 4 (tT 7)),oO 35 (kC 13 [(tT 34)]),oM 36 10,oO 37 (kC 16 [(tT 36)]),oM 38 11,oO 39 (kC 16 [(tT 38)]),oM 40 8,
 oO 41 (kC 21 [(tT 35),(tT 37),(tT 39),(tT 40)]),oM 33 41,oO 42 (.extract (tT 33) 0),oO 43 (.extract (tT 33) 1),oM 12 42,oM 13 43]) (sQ (.region [oO 45 (.load true 4 (tT 7)),oM 46 9,oM 47 10,oM 48 11,oO 49 (kC 35 [(tT 45),
 (tT 46),(tT 47),(tT 48)]),oM 44 49,oO 50 (.extract (tT 44) 0),oO 51 (.extract (tT 44) 1),oM 14 50,oM 15 51]) (sQ (.region [oM 52 13,oM 53 15,oO 54 (.bin .eql .num (tT 52) (tT 53)),oM 55 54,oT 55 56 (.mov (tT 12)),
 oT 55 57 (.mov (tT 14)),oT 55 58 (kC 34 [(tT 56),(tT 57)]),oO 59 (.pick (tT 55) (tT 58) kF),oM 6 59]) .ret))))))))
theorem ok6 : FnOk Tryz.prog 6 60 ir6 [.tmp 6] := Z8 mixed Tryz.func6 (by kernel_rfl) Tryz.ntmps6 (by kernel_rfl) (by kernel_rfl)
def ir12 : ACode := (sQ (.region [oO 0 (.mov kF)]) (sQ (.region [oO 17 (.bslice [(.int .i64 0)] 3 [(0,(kI 1)),(1,(kI 2)),(2,(kI 3))]),oO 18 (.build [(.int .u8 0),(.int .i64 0),nS,nS] [(0,1,(.const (.int .u8 5))),
 (2,1,(tT 17))]),oO 19 (.build [(.int .u8 0),(.int .i64 0),nS,nS] [(0,1,(.const (.int .u8 1))),(1,1,(kI 1))]),oO 20 (.bslice [(.int .u8 0),(.int .i64 0),nS,nS] 2 [(0,(tT 18)),(1,(tT 19))]),oO 21 (.build [(.int .u8 0),
 (.int .i64 0),nS,nS] [(0,1,(.const (.int .u8 11))),(3,1,(tT 20))]),oO 1 (.alloc [(.int .u8 0),(.int .i64 0),nS,nS]),⟨none,.store 4 (tT 1) (tT 21),none⟩]) (sQ (.region [oO 22 (.bslice [(.int .i64 0)] 1 [(0,
 (kI 1))]),oO 23 (.build [(.int .u8 0),(.int .i64 0),nS,nS] [(0,1,(.const (.int .u8 4))),(2,1,(tT 22))]),oO 24 (.bslice [(.int .i64 0)] 1 [(0,(kI 2))]),oO 25 (.build [(.int .u8 0),(.int .i64 0),nS,nS] [(0,
 1,(.const (.int .u8 4))),(2,1,(tT 24))]),oO 26 (.bslice [(.int .u8 0),(.int .i64 0),nS,nS] 2 [(0,(tT 23)),(1,(tT 25))]),oO 27 (.build [(.int .u8 0),(.int .i64 0),nS,nS] [(0,1,(.const (.int .u8 10))),(3,
 1,(tT 26))]),oO 2 (.alloc [(.int .u8 0),(.int .i64 0),nS,nS]),⟨none,.store 4 (tT 2) (tT 27),none⟩]) (sQ (.region [oO 29 (kC 47 []),oO 30 (kC 53 [(tT 29),(kI 4),(kI 1)]),oM 28 30,oO 31 (.extract (tT 28) 0),
 oO 32 (.extract (tT 28) 1),oM 3 31,oM 4 32]) (sQ (.region [oM 34 3,oO 35 (kC 53 [(tT 34),(kI 4),(kI 2)]),oM 33 35,oO 36 (.extract (tT 33) 0),oO 37 (.extract (tT 33) 1),oM 5 36,oM 6 37]) (sQ (.region [oO 39 (kC 47 []),
 oO 40 (kC 53 [(tT 39),(kI 4),(kI 2)]),oM 38 40,oO 41 (.extract (tT 38) 0),oO 42 (.extract (tT 38) 1),oM 7 41,oM 8 42]) (sQ (sQ (.region [oM 43 4,oO 44 (.bin .neq .num (tT 43) (kI 0)),oM 45 44,oF 45 46 (.mov (tT 6)),
 oF 45 47 (.bin .neq .num (tT 46) (kI 0)),oO 48 (.pick (tT 45) kT (tT 47)),oM 49 48,oF 49 50 (.mov (tT 8)),oF 49 51 (.bin .neq .num (tT 50) (kI 0)),oO 52 (.pick (tT 49) kT (tT 51))]) (.cond (tT 52) (sQ (.region [oO 0 (.mov kF)]) .ret) .skip)) (sQ (.draw [⟨0,
 oO 54 (.load true 4 (tT 1)),0,1,false⟩,⟨1,oO 55 (.bslice [(.int .i64 0)] 3 [(0,(kI 1)),(1,(kI 2)),(2,(kI 3))]),0,0,false⟩,⟨2,oO 56 (kC 48 [(tT 55)]),2,0,false⟩,⟨3,oO 57 (kC 30 [(tT 54),(tT 56)]),7,1,false⟩,
 ⟨4,oM 53 57,15,1,false⟩,⟨5,oO 58 (.extract (tT 53) 0),31,1,false⟩,⟨6,oO 59 (.extract (tT 53) 1),31,0,false⟩,⟨7,oO 9 (.alloc [nS,nS]),0,0,false⟩,⟨8,⟨none,.store 2 (tT 9) (tT 58),none⟩,191,1,false⟩,⟨9,oM 10 59,
 511,1,false⟩]) (sQ (.draw [⟨0,oO 61 (.load true 4 (tT 2)),0,1,false⟩,⟨1,oO 62 (.bslice [(.int .i64 0)] 2 [(0,(kI 1)),(1,(kI 3))]),0,0,false⟩,⟨2,oO 63 (kC 48 [(tT 62)]),2,0,false⟩,⟨3,oO 64 (kC 30 [(tT 61),
 (tT 63)]),7,1,false⟩,⟨4,oM 60 64,15,1,false⟩,⟨5,oO 65 (.extract (tT 60) 0),31,1,false⟩,⟨6,oO 66 (.extract (tT 60) 1),31,0,false⟩,⟨7,oO 11 (.alloc [nS,nS]),0,0,false⟩,⟨8,⟨none,.store 2 (tT 11) (tT 65),none⟩,
 191,1,false⟩,⟨9,oM 12 66,511,1,false⟩]) (sQ (.draw [⟨0,oO 68 (.load true 4 (tT 1)),0,1,false⟩,⟨1,oO 69 (.bslice [(.int .i64 0)] 2 [(0,(kI 3)),(1,(kI 4))]),0,0,false⟩,⟨2,oO 70 (kC 48 [(tT 69)]),2,0,false⟩,
 ⟨3,oM 71 5,0,0,false⟩,⟨4,oO 72 (kC 20 [(tT 68),(tT 70),(tT 71)]),15,1,false⟩,⟨5,oM 67 72,31,1,false⟩,⟨6,oO 73 (.extract (tT 67) 0),63,1,false⟩,⟨7,oO 74 (.extract (tT 67) 1),63,1,false⟩,⟨8,oM 13 73,127,
 1,false⟩,⟨9,oM 14 74,511,1,false⟩]) (sQ (.draw [⟨0,oO 76 (.load true 4 (tT 2)),0,1,false⟩,⟨1,oO 77 (.bslice [(.int .i64 0)] 2 [(0,(kI 1)),(1,(kI 3))]),0,0,false⟩,⟨2,oO 78 (kC 48 [(tT 77)]),2,0,false⟩,⟨3,
 oO 79 (.bslice [(.int .i64 0)] 2 [(0,(kI 2)),(1,(kI 4))]),0,0,false⟩,⟨4,oO 80 (kC 48 [(tT 79)]),14,0,false⟩,⟨5,oM 81 7,0,0,false⟩,⟨6,oO 82 (kC 21 [(tT 76),(tT 78),(tT 80),(tT 81)]),63,1,false⟩,⟨7,oM 75 82,
 127,1,false⟩,⟨8,oO 83 (.extract (tT 75) 0),255,1,false⟩,⟨9,oO 84 (.extract (tT 75) 1),255,1,false⟩,⟨10,oM 15 83,511,1,false⟩,⟨11,oM 16 84,2047,1,false⟩]) (sQ (.region [oM 85 10,oM 86 85,oT 86 87 (.mov (tT 12)),
 oO 88 (.pick (tT 86) (tT 87) kF),oM 89 88,oT 89 90 (.mov (tT 14)),oT 89 91 (.bin .eql .num (tT 90) (kI 0)),oO 92 (.pick (tT 89) (tT 91) kF),oM 93 92,oT 93 94 (.mov (tT 16)),oT 93 95 (.bin .eql .num (tT 94) (kI 0)),
 oO 96 (.pick (tT 93) (tT 95) kF),oM 97 96,oT 97 98 (.load true 2 (tT 9)),oT 97 99 (kC 54 [(tT 98)]),⟨(some 100),.bin .eql .num (tT 99) (.const (.string ⟨#[49,32,50]⟩)),(some (97,true))⟩,oO 101 (.pick (tT 97) (tT 100) kF),
 oM 102 101,oT 102 103 (.load true 2 (tT 11)),oT 102 104 (kC 51 [(tT 103),(.const (.pointer none))]),⟨(some 105),.bin .eql .num (tT 104) (.const (.string ⟨#[104,97,115,32,49,44,32,108,97,99,107,115,32,50]⟩)),
 (some (102,true))⟩,oO 106 (.pick (tT 102) (tT 105) kF),oM 107 106,oT 107 108 (.mov (tT 13)),oT 107 109 (.len (tT 108)),oT 107 110 (.bin .eql .num (tT 109) (kI 1)),oO 111 (.pick (tT 107) (tT 110) kF),oM 112 111,
 oT 112 113 (.mov (tT 13)),oT 112 114 (.iaddr 1 (tT 113) (kI 0)),oT 112 115 (.load true 1 (tT 114)),oT 112 116 (kC 55 [(tT 115)]),⟨(some 117),.bin .eql .num (tT 116) (.const (.string ⟨#[123,52,125]⟩)),(some (112,
 true))⟩,oO 118 (.pick (tT 112) (tT 117) kF),oM 119 118,oT 119 120 (.mov (tT 15)),oT 119 121 (.len (tT 120)),oT 119 122 (.bin .eql .num (tT 121) (kI 2)),oO 123 (.pick (tT 119) (tT 122) kF),oM 124 123,oT 124 125 (.mov (tT 15)),
 oT 124 126 (.iaddr 1 (tT 125) (kI 0)),oT 124 127 (.load true 1 (tT 126)),oT 124 128 (kC 55 [(tT 127)]),⟨(some 129),.bin .eql .num (tT 128) (.const (.string ⟨#[123,50,125]⟩)),(some (124,true))⟩,oO 130 (.pick (tT 124) (tT 129) kF),
 oM 131 130,oT 131 132 (.mov (tT 15)),oT 131 133 (.iaddr 1 (tT 132) (kI 1)),oT 131 134 (.load true 1 (tT 133)),oT 131 135 (kC 55 [(tT 134)]),⟨(some 136),.bin .eql .num (tT 135) (.const (.string ⟨#[123,52,
 125]⟩)),(some (131,true))⟩,oO 137 (.pick (tT 131) (tT 136) kF),oM 0 137]) .ret))))))))))))
theorem ok12 : FnOk Tryz.prog 12 138 ir12 [.tmp 0] := Z8 mixed Tryz.func12 (by kernel_rfl) Tryz.ntmps12 (by kernel_rfl) (by kernel_rfl)
def ir13 : ACode := (sQ (.region [oO 1 (.box (tT 0)),oO 2 (.alloc [(.int .u8 0),(.int .i64 0),nS,nS])]) (sQ (.draw [⟨0,oO 6 (.faddr 0 (tT 1)),0,0,false⟩,⟨1,oO 7 (.load false 1 (tT 6)),1,0,false⟩,⟨2,oO 8 (.conv .u8 (tT 7)),
 3,0,false⟩,⟨3,oO 9 (.faddr 1 (tT 1)),0,0,false⟩,⟨4,oO 10 (.load false 1 (tT 9)),8,0,false⟩,⟨5,oO 11 (.bslice [(.int .i64 0)] 0 []),0,0,false⟩,⟨6,oO 12 (.faddr 2 (tT 1)),0,0,false⟩,⟨7,oO 13 (.load false 1 (tT 12)),
 64,0,false⟩,⟨8,oO 14 (.append [(.int .i64 0)] 8 (tT 11) (tT 13)),224,448,false⟩,⟨9,oO 15 (.build [(.int .u8 0),(.int .i64 0),nS,nS] [(0,1,(tT 8)),(1,1,(tT 10)),(2,1,(tT 14))]),511,1,false⟩,⟨10,oO 3 (.alloc [(.int .u8 0),
 (.int .i64 0),nS,nS]),0,0,false⟩,⟨11,⟨none,.store 4 (tT 3) (tT 15),none⟩,2047,1,false⟩]) (sQ (sQ (.region [oO 16 (.faddr 3 (tT 1)),oO 17 (.load false 1 (tT 16)),oO 18 (.len (tT 17)),oO 19 (.mov (kI 0))]) (.block 0 (.loop (sQ (.region [oO 20 (.bin .lss .num (tT 19) (tT 18))]) (sQ (.cond (tT 20) .skip (.exit 0)) (sQ (.block 1 (sQ (.region [oO 21 (.iaddr 4 (tT 17) (tT 19)),
 oO 22 (.load true 4 (tT 21)),oO 5 (.alloc [(.int .i64 0),(.int .i64 0),nS,nS]),⟨none,.store 4 (tT 5) (tT 22),none⟩]) (.draw [⟨0,oO 23 (.faddr 3 (tT 3)),0,0,false⟩,⟨1,oO 24 (.load false 1 (tT 23)),1,0,false⟩,
 ⟨2,oO 25 (.load true 4 (tT 5)),0,0,false⟩,⟨3,oO 26 (kC 13 [(tT 25)]),4,0,false⟩,⟨4,oO 27 (.bslice [(.int .u8 0),(.int .i64 0),nS,nS] 1 [(0,(tT 26))]),12,0,false⟩,⟨5,oO 28 (.append [(.int .u8 0),(.int .i64 0),
 nS,nS] 64 (tT 24) (tT 27)),31,1,false⟩,⟨6,oO 29 (.faddr 3 (tT 3)),63,1,false⟩,⟨7,⟨none,.store 1 (tT 29) (tT 28),none⟩,127,1,false⟩]))) (.region [oO 30 (.bin .add .num (tT 19) (kI 1)),oM 19 30]))))))) (sQ (.region [oO 31 (.load true 4 (tT 3)),
 ⟨none,.store 4 (tT 2) (tT 31),none⟩]) .ret))))
theorem ok13 : FnOk Tryz.prog 13 32 ir13 [.cell 2 true 4] := Z8 mixed Tryz.func13 (by kernel_rfl) Tryz.ntmps13 (by kernel_rfl) (by kernel_rfl)
def ir14 : ACode := (sQ (.region [oO 2 (.alloc [(.int .i64 0),(.int .i64 0),nS,nS])]) (sQ (.region [oM 3 0,oM 4 0,oO 5 (.len (tT 4)),oO 6 (.mn (tT 5) (kI 24)),oO 7 (.slc 1 (tT 3) none (some (tT 6)) none),
 oO 8 (kC 56 [(tT 7),(kI 1),(kI 6)]),⟨none,.store 4 (tT 2) (tT 8),none⟩]) .ret))
theorem ok14 : FnOk Tryz.prog 14 9 ir14 [.cell 2 true 4] := Z8 mixed Tryz.func14 (by kernel_rfl) Tryz.ntmps14 (by kernel_rfl) (by kernel_rfl)
def ir15 : ACode := (sQ (.region [oO 2 (.mov (.const (.pointer none))),oO 3 (.mov (.const nS))]) (sQ (.region [oM 10 0,oO 11 (kC 57 [(tT 10)]),oM 4 11]) (sQ (.region [oO 12 (kC 47 []),oM 5 12]) (sQ (sQ (.region [oM 13 4,
 oO 14 (.len (tT 13)),oO 15 (.mov (kI 0))]) (.block 0 (.loop (sQ (.region [oO 16 (.bin .lss .num (tT 15) (tT 14))]) (sQ (.cond (tT 16) .skip (.exit 0)) (sQ (.block 1 (sQ (.region [oO 17 (.iaddr 2 (tT 13) (tT 15)),
 oO 18 (.load true 2 (tT 17)),oO 7 (.alloc [(.int .i64 0),(.int .i64 0)]),⟨none,.store 2 (tT 7) (tT 18),none⟩]) (sQ (.region [oM 20 5,oO 21 (.iaddrA 2 1 (tT 7) (kI 0)),oO 22 (.load false 1 (tT 21)),oO 23 (.iaddrA 2 1 (tT 7) (kI 1)),
 oO 24 (.load false 1 (tT 23)),oO 25 (kC 53 [(tT 20),(tT 22),(tT 24)]),oM 19 25,oO 26 (.extract (tT 19) 0),oO 27 (.extract (tT 19) 1),oM 8 26,oM 9 27]) (sQ (sQ (.region [oM 28 9,oO 29 (.bin .neq .num (tT 28) (kI 0))]) (.cond (tT 29) (sQ (.region [oM 30 4,
 oO 2 (.mov (.const (.pointer none))),oM 3 30]) .ret) .skip)) (.region [oM 31 8,oM 5 31]))))) (.region [oO 32 (.bin .add .num (tT 15) (kI 1)),oM 15 32]))))))) (sQ (.region [oM 33 5,oM 34 4,oM 2 33,oM 3 34]) .ret)))))
theorem ok15 : FnOk Tryz.prog 15 35 ir15 [.tmp 2, .tmp 3] := Z8 mixed Tryz.func15 (by kernel_rfl) Tryz.ntmps15 (by kernel_rfl) (by kernel_rfl)
def ir16 : ACode := (sQ (.region [oO 2 (.alloc [nS])]) (sQ (.region [oM 3 0,oO 4 (kC 58 [(tT 3)]),oO 5 (kC 48 [(tT 4)]),⟨none,.store 1 (tT 2) (tT 5),none⟩]) .ret))
theorem ok16 : FnOk Tryz.prog 16 6 ir16 [.cell 2 true 1] := Z8 mixed Tryz.func16 (by kernel_rfl) Tryz.ntmps16 (by kernel_rfl) (by kernel_rfl)
def ir17 : ACode := (sQ (.region [oO 3 (.box (tT 0)),oO 4 (.mov kF)]) (sQ (.draw [⟨0,oO 5 (.load true 4 (tT 1)),0,0,false⟩,⟨1,oO 6 (.load false 1 (tT 2)),0,0,false⟩,⟨2,oO 7 (.load true 1 (tT 3)),0,0,false⟩,
 ⟨3,oO 8 (kC 19 [(tT 6),(tT 7)]),6,0,false⟩,⟨4,oO 9 (kC 18 [(tT 5),(tT 8),(.const nS)]),15,1,false⟩,⟨5,oM 4 9,31,1,false⟩]) .ret))
theorem ok17 : FnOk Tryz.prog 17 10 ir17 [.tmp 4] := Z8 mixed Tryz.func17 (by kernel_rfl) Tryz.ntmps17 (by kernel_rfl) (by kernel_rfl)
def ir18 : ACode := (sQ (.region [oO 3 (.box (tT 0)),oO 4 (.box (tT 1)),oO 6 (.mov kF)]) (sQ (.region [oO 10 (.load true 4 (tT 3)),oO 11 (kC 59 [(tT 10)]),oM 9 11,oO 12 (.extract (tT 9) 0),oO 13 (.extract (tT 9) 1),
 oM 7 12,oM 8 13]) (sQ (.region [oM 14 8,oO 15 (.bin .eql .num (tT 14) (kI 0)),oM 16 15,oT 16 17 (.mov (tT 7)),oT 16 18 (.bin .eql .num (tT 17) (.const (.int .u8 1))),oO 19 (.pick (tT 16) (tT 18) kF),oM 20 19,
 oT 20 21 (.load true 1 (tT 4)),oT 20 22 (.mov (tT 2)),oT 20 23 (.build [nS,nS] [(0,1,(tT 21)),(1,1,(tT 22))]),oT 20 24 (.load true 4 (tT 3)),oT 20 25 (kC 60 [(tT 23),(tT 24)]),oT 20 26 (.bin .eql .num (tT 25) (kI 1)),
 oO 27 (.pick (tT 20) (tT 26) kF),oM 6 27]) .ret)))
theorem ok18 : FnOk Tryz.prog 18 28 ir18 [.tmp 6] := Z8 mixed Tryz.func18 (by kernel_rfl) Tryz.ntmps18 (by kernel_rfl) (by kernel_rfl)
def ir19 : ACode := (sQ (.region [oO 2 (.box (tT 0)),oO 3 (.box (tT 1)),oO 4 (.alloc [nS])]) (sQ (.region [oO 5 (.alloc [nS])]) (sQ (sQ (.region [oO 7 (.load true 1 (tT 3)),oO 8 (kC 26 [(tT 7)])]) (.block 0 (.range (tT 8) [9] [(6,
 (tT 9))] (.block 1 (.draw [⟨0,oO 10 (.load true 1 (tT 5)),0,0,false⟩,⟨1,oO 11 (.load false 1 (tT 2)),0,0,false⟩,⟨2,oM 12 6,0,0,false⟩,⟨3,oO 13 (kC 61 [(tT 11),(tT 12)]),6,0,false⟩,⟨4,oO 14 (kC 29 [(tT 10),
 (tT 13)]),15,1,false⟩,⟨5,⟨none,.store 1 (tT 5) (tT 14),none⟩,31,1,false⟩]))))) (sQ (.region [oO 15 (.load true 1 (tT 5)),⟨none,.store 1 (tT 4) (tT 15),none⟩]) .ret))))
theorem ok19 : FnOk Tryz.prog 19 16 ir19 [.cell 4 true 1] := Z8 mixed Tryz.func19 (by kernel_rfl) Tryz.ntmps19 (by kernel_rfl) (by kernel_rfl)
def ir20 : ACode := (sQ (.region [oO 3 (.box (tT 0)),oO 4 (.box (tT 1)),oO 5 (.box (tT 2)),oO 6 (.mov (.const nS)),oO 7 (.mov (kI 0))]) (sQ (sQ (.region [oO 9 (.load true 4 (tT 3)),oO 10 (.load false 1 (tT 5)),
 oO 11 (.load true 1 (tT 4)),oO 12 (kC 62 [(tT 9),(tT 10),(tT 11)]),oM 8 12]) (sQ (.region [oM 13 8,oO 14 (.bin .neq .num (tT 13) (kI 0))]) (.cond (tT 14) (sQ (.region [oM 15 8,oO 6 (.mov (.const nS)),oM 7 15]) .ret) .skip))) (sQ (.region [oO 16 (.load true 1 (tT 4)),
 oO 17 (kC 64 [(tT 16)]),oO 18 (.mkfn 65 [(tT 3),(tT 5),(tT 4)]),oO 19 (kC 63 [(tT 17),(tT 18)]),oO 20 (.extract (tT 19) 0),oO 21 (.extract (tT 19) 1),oM 6 20,oM 7 21]) .ret)))
theorem ok20 : FnOk Tryz.prog 20 22 ir20 [.tmp 6, .tmp 7] := Z8 mixed Tryz.func20 (by kernel_rfl) Tryz.ntmps20 (by kernel_rfl) (by kernel_rfl)
def ir21 : ACode := (sQ (.region [oO 4 (.box (tT 0)),oO 5 (.box (tT 1)),oO 6 (.box (tT 2)),oO 7 (.box (tT 3)),oO 8 (.mov (.const nS)),oO 9 (.mov (kI 0))]) (sQ (sQ (.draw [⟨0,oO 11 (.load true 4 (tT 4)),
 0,0,false⟩,⟨1,oO 12 (.load false 1 (tT 7)),0,0,false⟩,⟨2,oO 13 (.load true 1 (tT 5)),0,0,false⟩,⟨3,oO 14 (.load true 1 (tT 6)),0,0,false⟩,⟨4,oO 15 (kC 29 [(tT 13),(tT 14)]),12,0,false⟩,⟨5,oO 16 (kC 62 [(tT 11),
 (tT 12),(tT 15)]),31,1,false⟩,⟨6,oM 10 16,63,1,false⟩]) (sQ (.region [oM 17 10,oO 18 (.bin .neq .num (tT 17) (kI 0))]) (.cond (tT 18) (sQ (.region [oM 19 10,oO 8 (.mov (.const nS)),oM 9 19]) .ret) .skip))) (sQ (.region [oO 20 (.load true 1 (tT 6)),
 oO 21 (.load true 1 (tT 5)),oO 22 (kC 25 [(tT 20),(tT 21)]),oO 23 (kC 64 [(tT 22)]),oO 24 (.mkfn 66 [(tT 4),(tT 7),(tT 5)]),oO 25 (kC 63 [(tT 23),(tT 24)]),oO 26 (.extract (tT 25) 0),oO 27 (.extract (tT 25) 1),
 oM 8 26,oM 9 27]) .ret)))
theorem ok21 : FnOk Tryz.prog 21 28 ir21 [.tmp 8, .tmp 9] := Z8 mixed Tryz.func21 (by kernel_rfl) Tryz.ntmps21 (by kernel_rfl) (by kernel_rfl)
def ir22 : ACode := (sQ (.region [oO 1 (.box (tT 0)),oO 2 (.mov kF)]) (sQ (.region [oO 3 (.faddr 0 (tT 1)),oO 4 (.load false 1 (tT 3)),oO 5 (.len (tT 4)),oO 6 (.bin .eql .num (tT 5) (kI 0)),oM 2 6]) .ret))
theorem ok22 : FnOk Tryz.prog 22 7 ir22 [.tmp 2] := Z8 mixed Tryz.func22 (by kernel_rfl) Tryz.ntmps22 (by kernel_rfl) (by kernel_rfl)
def ir23 : ACode := (sQ (.region [oO 2 (.box (tT 0)),oO 3 (.box (tT 1)),oO 4 (.mov kF)]) (sQ (sQ (.region [oO 7 (.faddr 0 (tT 2)),oO 8 (.load false 1 (tT 7)),oO 9 (.len (tT 8)),oO 10 (.mov (kI 0))]) (.block 0 (.loop (sQ (.region [oO 11 (.bin .lss .num (tT 10) (tT 9))]) (sQ (.cond (tT 11) .skip (.exit 0)) (sQ (.block 1 (sQ (.region [oM 12 10,
 oO 13 (.iaddr 1 (tT 8) (tT 10)),oO 14 (.load false 1 (tT 13)),oM 5 12,oM 6 14]) (sQ (.region [oM 15 6,oO 16 (.load true 1 (tT 3)),oM 17 5,oO 18 (kC 67 [(tT 16),(tT 17)]),oO 19 (.bin .andNot .num (tT 15) (tT 18)),
 oO 20 (.bin .neq .num (tT 19) (.const (.int .u64 0)))]) (.cond (tT 20) (sQ (.region [oO 4 (.mov kF)]) .ret) .skip)))) (.region [oO 21 (.bin .add .num (tT 10) (kI 1)),oM 10 21]))))))) (sQ (.region [oO 4 (.mov kT)]) .ret)))
theorem ok23 : FnOk Tryz.prog 23 22 ir23 [.tmp 4] := Z8 mixed Tryz.func23 (by kernel_rfl) Tryz.ntmps23 (by kernel_rfl) (by kernel_rfl)
def ir24 : ACode := (sQ (.region [oO 1 (.box (tT 0)),oO 2 (.mov (kI 0))]) (sQ (.region [oO 3 (.mov (kI 0))]) (sQ (sQ (.region [oO 6 (.faddr 0 (tT 1)),oO 7 (.load false 1 (tT 6)),oO 8 (.len (tT 7)),oO 9 (.mov (kI 0))]) (.block 0 (.loop (sQ (.region [oO 10 (.bin .lss .num (tT 9) (tT 8))]) (sQ (.cond (tT 10) .skip (.exit 0)) (sQ (.block 1 (sQ (.region [oO 11 (.iaddr 1 (tT 7) (tT 9)),
 oO 12 (.load false 1 (tT 11)),oM 5 12]) (.region [oM 13 3,oM 14 5,oO 15 (kC 68 [(tT 14)]),oO 16 (.bin .add .num (tT 13) (tT 15)),oM 3 16]))) (.region [oO 17 (.bin .add .num (tT 9) (kI 1)),oM 9 17]))))))) (sQ (.region [oM 18 3,
 oM 2 18]) .ret))))
theorem ok24 : FnOk Tryz.prog 24 19 ir24 [.tmp 2] := Z8 mixed Tryz.func24 (by kernel_rfl) Tryz.ntmps24 (by kernel_rfl) (by kernel_rfl)
def ir25 : ACode := (sQ (.region [oO 2 (.box (tT 0)),oO 3 (.box (tT 1)),oO 4 (.alloc [nS])]) (sQ (.region [oO 7 (.faddr 0 (tT 2)),oO 8 (.load false 1 (tT 7)),oO 9 (.len (tT 8)),oO 10 (.mslice [(.int .u64 0)] 8 (tT 9) (tT 9)),
 oM 5 10]) (sQ (sQ (.region [oM 11 5,oO 12 (.len (tT 11)),oO 13 (.mov (kI 0))]) (.block 0 (.loop (sQ (.region [oO 14 (.bin .lss .num (tT 13) (tT 12))]) (sQ (.cond (tT 14) .skip (.exit 0)) (sQ (.block 1 (sQ (.region [oM 15 13,
 oM 6 15]) (.draw [⟨0,oM 16 5,0,0,false⟩,⟨1,oM 17 6,0,0,false⟩,⟨2,oO 18 (.faddr 0 (tT 2)),0,0,false⟩,⟨3,oO 19 (.load false 1 (tT 18)),4,0,false⟩,⟨4,oM 20 6,0,0,false⟩,⟨5,oO 21 (.iaddr 1 (tT 19) (tT 20)),
 28,0,false⟩,⟨6,oO 22 (.load false 1 (tT 21)),60,0,false⟩,⟨7,oO 23 (.load true 1 (tT 3)),0,0,false⟩,⟨8,oM 24 6,0,0,false⟩,⟨9,oO 25 (kC 67 [(tT 23),(tT 24)]),384,0,false⟩,⟨10,oO 26 (.bin .andNot .num (tT 22) (tT 25)),
 1020,1,false⟩,⟨11,oO 27 (.iaddr 1 (tT 16) (tT 17)),2047,1,false⟩,⟨12,⟨none,.store 1 (tT 27) (tT 26),none⟩,4095,1,false⟩]))) (.region [oO 28 (.bin .add .num (tT 13) (kI 1)),oM 13 28]))))))) (sQ (.region [oM 29 5,
 oO 30 (kC 69 [(tT 29)]),⟨none,.store 1 (tT 4) (tT 30),none⟩]) .ret))))
theorem ok25 : FnOk Tryz.prog 25 31 ir25 [.cell 4 true 1] := Z8 mixed Tryz.func25 (by kernel_rfl) Tryz.ntmps25 (by kernel_rfl) (by kernel_rfl)
def ir26 : ACode := (sQ (.region [oO 1 (.box (tT 0)),oO 2 (.mov (.const .nilFunc))]) (sQ (.region [oO 3 (.mkfn 70 [(tT 1)]),oM 2 3]) .ret))
theorem ok26 : FnOk Tryz.prog 26 4 ir26 [.tmp 2] := Z8 mixed Tryz.func26 (by kernel_rfl) Tryz.ntmps26 (by kernel_rfl) (by kernel_rfl)
def ir27 : ACode := (sQ (.region [oO 2 (.box (tT 0)),oO 4 (.alloc [nS])]) (sQ (sQ (.region [oO 6 (.load true 1 (tT 2)),oM 7 1,oO 8 (kC 72 [(tT 6),(tT 7)]),oO 9 (.una .not (tT 8))]) (.cond (tT 9) (sQ (.region [oO 10 (.load true 1 (tT 2)),
 ⟨none,.store 1 (tT 4) (tT 10),none⟩]) .ret) .skip)) (sQ (.region [oO 11 (.bslice [(.int .u64 0)] 0 []),oO 12 (.faddr 0 (tT 2)),oO 13 (.load false 1 (tT 12)),oO 14 (.append [(.int .u64 0)] 8 (tT 11) (tT 13)),
 oM 5 14]) (sQ (.draw [⟨0,oM 15 5,0,1,false⟩,⟨1,oM 16 1,0,1,false⟩,⟨2,oO 17 (.bin .quo .num (tT 16) (kI 64)),2,1,false⟩,⟨3,oO 18 (.iaddr 1 (tT 15) (tT 17)),7,1,false⟩,⟨4,oO 19 (.load false 1 (tT 18)),15,
 1,false⟩,⟨5,oM 20 1,0,0,false⟩,⟨6,oO 21 (.bin .rem .num (tT 20) (kI 64)),32,0,false⟩,⟨7,oO 22 (.bin .shl .num (.const (.int .u64 1)) (tT 21)),96,0,false⟩,⟨8,oO 23 (.bin .andNot .num (tT 19) (tT 22)),255,
 1,false⟩,⟨9,oO 24 (.iaddr 1 (tT 15) (tT 17)),511,1,false⟩,⟨10,⟨none,.store 1 (tT 24) (tT 23),none⟩,1023,1,false⟩]) (sQ (.region [oM 25 5,oO 26 (kC 69 [(tT 25)]),⟨none,.store 1 (tT 4) (tT 26),none⟩]) .ret)))))
theorem ok27 : FnOk Tryz.prog 27 27 ir27 [.cell 4 true 1] := Z8 mixed Tryz.func27 (by kernel_rfl) Tryz.ntmps27 (by kernel_rfl) (by kernel_rfl)
def ir28 : ACode := (sQ (.region [oO 2 (.box (tT 0)),oO 3 (.box (tT 1)),oO 4 (.mov kF)]) (sQ (sQ (.region [oO 6 (.faddr 0 (tT 2)),oO 7 (.load false 1 (tT 6)),oO 8 (.len (tT 7)),oO 9 (.faddr 0 (tT 3)),oO 10 (.load false 1 (tT 9)),
 oO 11 (.len (tT 10)),oO 12 (.mn (tT 8) (tT 11)),oO 13 (.mov (kI 0))]) (.block 0 (.loop (sQ (.region [oO 14 (.bin .lss .num (tT 13) (tT 12))]) (sQ (.cond (tT 14) .skip (.exit 0)) (sQ (.block 1 (sQ (.region [oM 15 13,
 oM 5 15]) (sQ (.draw [⟨0,oO 16 (.faddr 0 (tT 2)),0,0,false⟩,⟨1,oO 17 (.load false 1 (tT 16)),1,0,false⟩,⟨2,oM 18 5,0,0,false⟩,⟨3,oO 19 (.iaddr 1 (tT 17) (tT 18)),7,0,false⟩,⟨4,oO 20 (.load false 1 (tT 19)),
 15,0,false⟩,⟨5,oO 21 (.faddr 0 (tT 3)),0,0,false⟩,⟨6,oO 22 (.load false 1 (tT 21)),32,0,false⟩,⟨7,oM 23 5,0,0,false⟩,⟨8,oO 24 (.iaddr 1 (tT 22) (tT 23)),224,0,false⟩,⟨9,oO 25 (.load false 1 (tT 24)),480,
 0,false⟩,⟨10,oO 26 (.bin .and .num (tT 20) (tT 25)),1023,1,false⟩,⟨11,oO 27 (.bin .neq .num (tT 26) (.const (.int .u64 0))),2047,1,false⟩]) (.cond (tT 27) (sQ (.region [oO 4 (.mov kT)]) .ret) .skip)))) (.region [oO 28 (.bin .add .num (tT 13) (kI 1)),
 oM 13 28]))))))) (sQ (.region [oO 4 (.mov kF)]) .ret)))
theorem ok28 : FnOk Tryz.prog 28 29 ir28 [.tmp 4] := Z8 mixed Tryz.func28 (by kernel_rfl) Tryz.ntmps28 (by kernel_rfl) (by kernel_rfl)
def ir29 : ACode := (sQ (.region [oO 2 (.box (tT 0)),oO 3 (.box (tT 1)),oO 4 (.alloc [nS])]) (sQ (.region [oO 7 (.faddr 0 (tT 2)),oO 8 (.load false 1 (tT 7)),oO 9 (.len (tT 8)),oO 10 (.faddr 0 (tT 3)),
 oO 11 (.load false 1 (tT 10)),oO 12 (.len (tT 11)),oO 13 (.mx (tT 9) (tT 12)),oO 14 (.mslice [(.int .u64 0)] 8 (tT 13) (tT 13)),oM 5 14]) (sQ (sQ (.region [oM 15 5,oO 16 (.len (tT 15)),oO 17 (.mov (kI 0))]) (.block 0 (.loop (sQ (.region [oO 18 (.bin .lss .num (tT 17) (tT 16))]) (sQ (.cond (tT 18) .skip (.exit 0)) (sQ (.block 1 (sQ (.region [oM 19 17,
 oM 6 19]) (.draw [⟨0,oM 20 5,0,0,false⟩,⟨1,oM 21 6,0,0,false⟩,⟨2,oO 22 (.load true 1 (tT 2)),0,0,false⟩,⟨3,oM 23 6,0,0,false⟩,⟨4,oO 24 (kC 67 [(tT 22),(tT 23)]),12,0,false⟩,⟨5,oO 25 (.load true 1 (tT 3)),
 0,0,false⟩,⟨6,oM 26 6,0,0,false⟩,⟨7,oO 27 (kC 67 [(tT 25),(tT 26)]),124,1,false⟩,⟨8,oO 28 (.bin .or .num (tT 24) (tT 27)),252,1,false⟩,⟨9,oO 29 (.iaddr 1 (tT 20) (tT 21)),511,1,false⟩,⟨10,⟨none,.store 1 (tT 29) (tT 28),
 none⟩,1023,1,false⟩]))) (.region [oO 30 (.bin .add .num (tT 17) (kI 1)),oM 17 30]))))))) (sQ (.region [oM 31 5,oO 32 (.build [nS] [(0,1,(tT 31))]),⟨none,.store 1 (tT 4) (tT 32),none⟩]) .ret))))
theorem ok29 : FnOk Tryz.prog 29 33 ir29 [.cell 4 true 1] := Z8 mixed Tryz.func29 (by kernel_rfl) Tryz.ntmps29 (by kernel_rfl) (by kernel_rfl)
def ir30 : ACode := (sQ (.region [oO 2 (.box (tT 0)),oO 3 (.box (tT 1)),oO 4 (.alloc [nS,nS]),oO 5 (.mov kF)]) (sQ (sQ (.region [oO 10 (.load true 4 (tT 2)),oO 11 (kC 45 [(tT 10),(.const (.int .u8 1))]),
 oO 12 (.bin .neq .num (tT 11) (kI 0))]) (.cond (tT 12) (sQ (.region [oO 13 (.build [nS,nS] []),⟨none,.store 2 (tT 4) (tT 13),none⟩,oO 5 (.mov kF)]) .ret) .skip)) (sQ (.region [oO 15 (.load true 4 (tT 2)),
 oO 16 (kC 36 [(tT 15)]),oM 14 16,oO 17 (.extract (tT 14) 0),oO 18 (.extract (tT 14) 1),oM 6 17,oM 7 18]) (sQ (sQ (.region [oM 19 6,oO 20 (.len (tT 19)),oO 21 (.mov (kI 0))]) (.block 0 (.loop (sQ (.region [oO 22 (.bin .lss .num (tT 21) (tT 20))]) (sQ (.cond (tT 22) .skip (.exit 0)) (sQ (.block 1 (sQ (.region [oO 23 (.iaddr 2 (tT 19) (tT 21)),
 oO 24 (.load true 2 (tT 23)),oO 9 (.alloc [nS,nS]),⟨none,.store 2 (tT 9) (tT 24),none⟩]) (sQ (.region [oO 25 (.load true 2 (tT 9)),oO 26 (.load true 1 (tT 3)),oO 27 (kC 39 [(tT 25),(tT 26)])]) (.cond (tT 27) (sQ (.region [oO 28 (.load true 2 (tT 9)),
 ⟨none,.store 2 (tT 4) (tT 28),none⟩,oO 5 (.mov kT)]) .ret) .skip)))) (.region [oO 29 (.bin .add .num (tT 21) (kI 1)),oM 21 29]))))))) (sQ (.region [oO 30 (.build [nS,nS] []),⟨none,.store 2 (tT 4) (tT 30),
 none⟩,oO 5 (.mov kF)]) .ret)))))
theorem ok30 : FnOk Tryz.prog 30 31 ir30 [.cell 4 true 2, .tmp 5] := Z8 mixed Tryz.func30 (by kernel_rfl) Tryz.ntmps30 (by kernel_rfl) (by kernel_rfl)
def ir33 : ACode := (sQ (.region [oO 3 (.box (tT 0)),oO 6 (.mov (.const nS)),oO 7 (.mov (kI 0))]) (sQ (.region [oO 9 (.load true 4 (tT 3)),oM 10 1,oM 11 2,oM 12 2,oO 13 (kC 78 [(tT 9),(tT 10),(tT 11),(tT 12),
 kF]),oM 8 13]) (sQ (sQ (.region [oM 14 8,oO 15 (.len (tT 14)),oO 16 (.bin .eql .num (tT 15) (kI 0))]) (.cond (tT 16) (sQ (.region [oO 6 (.mov (.const nS)),oO 7 (.mov (kI 4))]) .ret) .skip)) (sQ (.region [oM 17 8,
 oM 6 17,oO 7 (.mov (kI 0))]) .ret))))
theorem ok33 : FnOk Tryz.prog 33 18 ir33 [.tmp 6, .tmp 7] := Z8 mixed Tryz.func33 (by kernel_rfl) Tryz.ntmps33 (by kernel_rfl) (by kernel_rfl)
def ir34 : ACode := (sQ (.region [oO 4 (.mov kF)]) (sQ (.region [oM 5 0,oM 6 1,oO 7 (kC 79 [(tT 5),(tT 6),(.func 80)]),oM 4 7]) .ret))
theorem ok34 : FnOk Tryz.prog 34 8 ir34 [.tmp 4] := Z8 mixed Tryz.func34 (by kernel_rfl) Tryz.ntmps34 (by kernel_rfl) (by kernel_rfl)
def ir35 : ACode := (sQ (.region [oO 4 (.box (tT 0)),oO 8 (.mov (.const nS)),oO 9 (.mov (kI 0))]) (sQ (.region [oO 11 (.load true 4 (tT 4)),oM 12 1,oM 13 2,oM 14 3,oM 15 2,oO 16 (.bin .andNot .num (tT 14) (tT 15)),
 oO 17 (kC 78 [(tT 11),(tT 12),(tT 13),(tT 16),kT]),oM 10 17]) (sQ (sQ (.region [oM 18 10,oO 19 (.len (tT 18)),oO 20 (.bin .eql .num (tT 19) (kI 0))]) (.cond (tT 20) (sQ (.region [oO 8 (.mov (.const nS)),
 oO 9 (.mov (kI 4))]) .ret) .skip)) (sQ (.region [oM 21 10,oM 8 21,oO 9 (.mov (kI 0))]) .ret))))
theorem ok35 : FnOk Tryz.prog 35 22 ir35 [.tmp 8, .tmp 9] := Z8 mixed Tryz.func35 (by kernel_rfl) Tryz.ntmps35 (by kernel_rfl) (by kernel_rfl)
def ir36 : ACode := (sQ (.region [oO 1 (.box (tT 0)),oO 2 (.mov (.const nS)),oO 3 (.mov (kI 0))]) (sQ (sQ (.region [oO 5 (.load true 4 (tT 1)),oO 6 (kC 45 [(tT 5),(.const (.int .u8 1))]),oM 4 6]) (sQ (.region [oM 7 4,
 oO 8 (.bin .neq .num (tT 7) (kI 0))]) (.cond (tT 8) (sQ (.region [oM 9 4,oO 2 (.mov (.const nS)),oM 3 9]) .ret) .skip))) (sQ (.region [oO 10 (.load true 4 (tT 1)),oO 11 (kC 83 [(tT 10)]),oO 12 (kC 64 [(tT 11)]),
 oO 13 (.mkfn 84 [(tT 1)]),oO 14 (kC 82 [(tT 12),(tT 13)]),oM 2 14,oO 3 (.mov (kI 0))]) .ret)))
theorem ok36 : FnOk Tryz.prog 36 15 ir36 [.tmp 2, .tmp 3] := Z8 mixed Tryz.func36 (by kernel_rfl) Tryz.ntmps36 (by kernel_rfl) (by kernel_rfl)
def ir39 : ACode := (sQ (.region [oO 2 (.box (tT 0)),oO 3 (.box (tT 1)),oO 4 (.mov kF)]) (sQ (.region [oO 5 (.faddr 0 (tT 2)),oO 6 (.load true 1 (tT 5)),oO 7 (.load true 1 (tT 3)),oO 8 (kC 23 [(tT 6),(tT 7)]),
 oM 9 8,oT 9 10 (.faddr 1 (tT 2)),oT 9 11 (.load true 1 (tT 10)),oT 9 12 (.load true 1 (tT 3)),oT 9 13 (kC 28 [(tT 11),(tT 12)]),oT 9 14 (.una .not (tT 13)),oO 15 (.pick (tT 9) (tT 14) kF),oM 4 15]) .ret))
theorem ok39 : FnOk Tryz.prog 39 16 ir39 [.tmp 4] := Z8 mixed Tryz.func39 (by kernel_rfl) Tryz.ntmps39 (by kernel_rfl) (by kernel_rfl)
def ir45 : ACode := (sQ (.region [oO 2 (.box (tT 0)),oO 4 (.mov (kI 0))]) (sQ (sQ (.region [oM 6 1,oO 7 (.bin .lss .num (tT 6) (.const (.int .u8 1))),oM 8 7,oF 8 9 (.mov (tT 1)),oF 8 10 (.bin .gtr .num (tT 9) (.const (.int .u8 3))),
 oO 11 (.pick (tT 8) kT (tT 10))]) (.cond (tT 11) (sQ (.region [oO 4 (.mov (kI 1))]) .ret) .skip)) (sQ (sQ (.region [oO 12 (.load true 4 (tT 2)),oM 13 1,oO 14 (kC 94 [(tT 12),(tT 13)]),oM 5 14]) (sQ (.region [oM 15 5,
 oO 16 (.bin .neq .num (tT 15) (kI 0))]) (.cond (tT 16) (sQ (.region [oM 17 5,oM 4 17]) .ret) .skip))) (sQ (sQ (.region [oO 18 (.load true 4 (tT 2)),oO 19 (kC 95 [(tT 18)]),oO 20 (.una .not (tT 19)),oM 21 20,
 oF 21 22 (.faddr 0 (tT 2)),oF 21 23 (.load false 1 (tT 22)),oF 21 24 (kC 96 [(tT 23)]),oF 21 25 (.bin .neq .num (tT 24) (.const (.int .u8 1))),oO 26 (.pick (tT 21) kT (tT 25))]) (.cond (tT 26) (sQ (.region [oO 4 (.mov (kI 10))]) .ret) .skip)) (sQ (sQ (.region [oM 27 1,
 oO 28 (.bin .neq .num (tT 27) (.const (.int .u8 3))),oM 29 28,oT 29 30 (.load true 4 (tT 2)),oT 29 31 (kC 83 [(tT 30)]),oT 29 32 (kC 24 [(tT 31)]),oT 29 33 (.bin .gtr .num (tT 32) (kI 8)),oO 34 (.pick (tT 29) (tT 33) kF)]) (.cond (tT 34) (sQ (.region [oO 4 (.mov (kI 3))]) .ret) .skip)) (sQ (.region [oO 4 (.mov (kI 0))]) .ret))))))
theorem ok45 : FnOk Tryz.prog 45 35 ir45 [.tmp 4] := Z8 mixed Tryz.func45 (by kernel_rfl) Tryz.ntmps45 (by kernel_rfl) (by kernel_rfl)
def ir46 : ACode := (sQ (.region [oO 2 (.alloc [nS])]) (sQ (.region [oM 5 0,oO 6 (.mx (tT 5) (kI 0)),oO 7 (.mn (tT 6) (kI 4096)),oM 0 7]) (sQ (.region [oM 8 0,oO 9 (.bin .add .num (tT 8) (kI 63)),oO 10 (.bin .quo .num (tT 9) (kI 64)),
 oO 11 (.mslice [(.int .u64 0)] 8 (tT 10) (tT 10)),oM 3 11]) (sQ (sQ (.region [oM 12 3,oO 13 (.len (tT 12)),oO 14 (.mov (kI 0))]) (.block 0 (.loop (sQ (.region [oO 15 (.bin .lss .num (tT 14) (tT 13))]) (sQ (.cond (tT 15) .skip (.exit 0)) (sQ (.block 1 (sQ (.region [oM 16 14,
 oM 4 16]) (.region [oM 17 3,oM 18 4,oO 19 (.iaddr 1 (tT 17) (tT 18)),⟨none,.store 1 (tT 19) (.const (.int .u64 18446744073709551615)),none⟩]))) (.region [oO 20 (.bin .add .num (tT 14) (kI 1)),oM 14 20]))))))) (sQ (sQ (.region [oM 21 0,
 oO 22 (.bin .rem .num (tT 21) (kI 64)),oO 23 (.bin .gtr .num (tT 22) (kI 0))]) (.cond (tT 23) (.region [oM 24 3,oM 25 3,oO 26 (.len (tT 25)),oO 27 (.bin .sub .num (tT 26) (kI 1)),oM 28 0,oO 29 (.bin .rem .num (tT 28) (kI 64)),
 oO 30 (.bin .shl .num (.const (.int .u64 1)) (tT 29)),oO 31 (.bin .sub .num (tT 30) (.const (.int .u64 1))),oO 32 (.iaddr 1 (tT 24) (tT 27)),⟨none,.store 1 (tT 32) (tT 31),none⟩]) .skip)) (sQ (.region [oM 33 3,
 oO 34 (.build [nS] [(0,1,(tT 33))]),⟨none,.store 1 (tT 2) (tT 34),none⟩]) .ret))))))
theorem ok46 : FnOk Tryz.prog 46 35 ir46 [.cell 2 true 1] := Z8 mixed Tryz.func46 (by kernel_rfl) Tryz.ntmps46 (by kernel_rfl) (by kernel_rfl)
def ir47 : ACode := (sQ (.region [oO 0 (.mov (.const (.pointer none)))]) (sQ (.region [oO 4 (kC 97 [(kI 64),(.const nS)]),oM 3 4,oO 5 (.extract (tT 3) 0),oO 6 (.extract (tT 3) 1),oM 1 5,oM 2 6]) (sQ (.region [oM 7 1,
 oO 8 (.build [(.pointer none)] [(0,1,(tT 7))]),oO 9 (.box (tT 8)),oM 0 9]) .ret)))
theorem ok47 : FnOk Tryz.prog 47 10 ir47 [.tmp 0] := Z8 mixed Tryz.func47 (by kernel_rfl) Tryz.ntmps47 (by kernel_rfl) (by kernel_rfl)
def ir48 : ACode := (sQ (.region [oO 2 (.alloc [nS])]) (sQ (.region [oO 3 (.mov (.const (.int .i64 (-1))))]) (sQ (sQ (.region [oM 9 0,oO 10 (.len (tT 9)),oO 11 (.mov (kI 0))]) (.block 0 (.loop (sQ (.region [oO 12 (.bin .lss .num (tT 11) (tT 10))]) (sQ (.cond (tT 12) .skip (.exit 0)) (sQ (.block 1 (sQ (.region [oO 13 (.iaddr 1 (tT 9) (tT 11)),
 oO 14 (.load false 1 (tT 13)),oM 5 14]) (sQ (.region [oM 15 5,oO 16 (.bin .leq .num (tT 15) (kI 4095))]) (.cond (tT 16) (.region [oM 17 3,oM 18 5,oO 19 (.mx (tT 17) (tT 18)),oM 3 19]) .skip)))) (.region [oO 20 (.bin .add .num (tT 11) (kI 1)),
 oM 11 20]))))))) (sQ (sQ (.region [oM 21 3,oO 22 (.bin .lss .num (tT 21) (kI 0))]) (.cond (tT 22) (sQ (.region [oO 23 (.build [nS] []),⟨none,.store 1 (tT 2) (tT 23),none⟩]) .ret) .skip)) (sQ (.region [oM 24 3,
 oO 25 (.bin .quo .num (tT 24) (kI 64)),oO 26 (.bin .add .num (tT 25) (kI 1)),oO 27 (.mslice [(.int .u64 0)] 8 (tT 26) (tT 26)),oM 6 27]) (sQ (sQ (.region [oM 28 0,oO 29 (.len (tT 28)),oO 30 (.mov (kI 0))]) (.block 2 (.loop (sQ (.region [oO 31 (.bin .lss .num (tT 30) (tT 29))]) (sQ (.cond (tT 31) .skip (.exit 2)) (sQ (.block 3 (sQ (.region [oO 32 (.iaddr 1 (tT 28) (tT 30)),
 oO 33 (.load false 1 (tT 32)),oM 8 33]) (sQ (.region [oM 34 8,oO 35 (.bin .geq .num (tT 34) (kI 0)),oM 36 35,oT 36 37 (.mov (tT 8)),oT 36 38 (.mov (tT 3)),oT 36 39 (.bin .leq .num (tT 37) (tT 38)),oO 40 (.pick (tT 36) (tT 39) kF)]) (.cond (tT 40) (.draw [⟨0,
 oM 41 6,0,1,false⟩,⟨1,oM 42 8,0,1,false⟩,⟨2,oO 43 (.bin .quo .num (tT 42) (kI 64)),2,1,false⟩,⟨3,oO 44 (.iaddr 1 (tT 41) (tT 43)),7,1,false⟩,⟨4,oO 45 (.load false 1 (tT 44)),15,1,false⟩,⟨5,oM 46 8,0,0,
 false⟩,⟨6,oO 47 (.bin .rem .num (tT 46) (kI 64)),32,0,false⟩,⟨7,oO 48 (.bin .shl .num (.const (.int .u64 1)) (tT 47)),96,0,false⟩,⟨8,oO 49 (.bin .or .num (tT 45) (tT 48)),255,1,false⟩,⟨9,oO 50 (.iaddr 1 (tT 41) (tT 43)),
 511,1,false⟩,⟨10,⟨none,.store 1 (tT 50) (tT 49),none⟩,1023,1,false⟩]) .skip)))) (.region [oO 51 (.bin .add .num (tT 30) (kI 1)),oM 30 51]))))))) (sQ (.region [oM 52 6,oO 53 (kC 69 [(tT 52)]),⟨none,.store 1 (tT 2) (tT 53),
 none⟩]) .ret)))))))
theorem ok48 : FnOk Tryz.prog 48 54 ir48 [.cell 2 true 1] := Z8 mixed Tryz.func48 (by kernel_rfl) Tryz.ntmps48 (by kernel_rfl) (by kernel_rfl)
def ir51 : ACode := (sQ (.region [oO 2 (.box (tT 0)),⟨(some 4),.mov (.const (.string ⟨#[]⟩)),none⟩]) (sQ (.region [oO 6 (.faddr 0 (tT 2)),oO 7 (.load true 1 (tT 6)),oM 8 1,⟨(some 9),kC 99 [(.const nS),
 (.const (.string ⟨#[104,97,115,32]⟩)),(tT 7),(tT 8)],none⟩,oM 5 9]) (sQ (.region [oM 10 5,oO 11 (.faddr 1 (tT 2)),oO 12 (.load true 1 (tT 11)),oM 13 1,⟨(some 14),kC 99 [(tT 10),(.const (.string ⟨#[108,
 97,99,107,115,32]⟩)),(tT 12),(tT 13)],none⟩,oM 5 14]) (sQ (sQ (.region [oM 15 5,oO 16 (.len (tT 15)),oO 17 (.bin .eql .num (tT 16) (kI 0))]) (.cond (tT 17) (sQ (.region [⟨(some 4),.mov (.const (.string ⟨#[97,
 110,121,32,114,111,108,101,115]⟩)),none⟩]) .ret) .skip)) (sQ (.region [oM 18 5,⟨(some 19),kC 100 [(tT 18),(.const (.string ⟨#[44,32]⟩))],none⟩,oM 4 19]) .ret)))))
theorem ok51 : FnOk Tryz.prog 51 20 ir51 [.tmp 4] := Z8 mixed Tryz.func51 (by kernel_rfl) Tryz.ntmps51 (by kernel_rfl) (by kernel_rfl)
def ir53 : ACode := (sQ (.region [oO 6 (.mov (.const (.pointer none))),oO 7 (.mov (kI 0))]) (sQ (sQ (.region [oM 10 0,oO 11 (.bin .eql .ptr (tT 10) (.const (.pointer none))),oM 12 11,oF 12 13 (.mov (tT 1)),
 oF 12 14 (kC 102 [(tT 13)]),oF 12 15 (.una .not (tT 14)),oO 16 (.pick (tT 12) kT (tT 15)),oM 17 16,oF 17 18 (.mov (tT 2)),oF 17 19 (kC 102 [(tT 18)]),oF 17 20 (.una .not (tT 19)),oO 21 (.pick (tT 17) kT (tT 20)),
 oM 22 21,oF 22 23 (.mov (tT 1)),oF 22 24 (.mov (tT 2)),oF 22 25 (.bin .eql .num (tT 23) (tT 24)),oO 26 (.pick (tT 22) kT (tT 25))]) (.cond (tT 26) (sQ (.region [oO 6 (.mov (.const (.pointer none))),oO 7 (.mov (kI 1))]) .ret) .skip)) (sQ (.region [oM 28 0,
 oO 29 (.nilck (tT 28)),oO 30 (.faddr 0 (tT 29)),oO 31 (.load false 1 (tT 30)),oM 32 1,oM 33 2,oO 34 (kC 103 [(tT 31),(tT 32),(tT 33)]),oM 27 34,oO 35 (.extract (tT 27) 0),oO 36 (.extract (tT 27) 1),oM 8 35,
 oM 9 36]) (sQ (sQ (.region [oM 37 9,oO 38 (.bin .neq .num (tT 37) (kI 0))]) (.cond (tT 38) (sQ (.region [oM 39 9,oO 6 (.mov (.const (.pointer none))),oM 7 39]) .ret) .skip)) (sQ (.region [oM 40 8,oO 41 (.build [(.pointer none)] [(0,
 1,(tT 40))]),oO 42 (.box (tT 41)),oM 6 42,oO 7 (.mov (kI 0))]) .ret)))))
theorem ok53 : FnOk Tryz.prog 53 43 ir53 [.tmp 6, .tmp 7] := Z8 mixed Tryz.func53 (by kernel_rfl) Tryz.ntmps53 (by kernel_rfl) (by kernel_rfl)
def ir54 : ACode := (sQ (.region [oO 1 (.box (tT 0)),⟨(some 2),.mov (.const (.string ⟨#[]⟩)),none⟩]) (sQ (.region [oO 3 (.alloc [nS])]) (sQ (sQ (.region [oO 5 (.faddr 0 (tT 1)),oO 6 (.load true 1 (tT 5)),
 oO 7 (.faddr 1 (tT 1)),oO 8 (.load true 1 (tT 7)),oO 9 (kC 29 [(tT 6),(tT 8)]),oO 10 (kC 26 [(tT 9)])]) (.block 0 (.range (tT 10) [11] [(4,(tT 11))] (.block 1 (sQ (sQ (.region [oO 12 (.faddr 0 (tT 1)),
 oO 13 (.load true 1 (tT 12)),oM 14 4,oO 15 (kC 72 [(tT 13),(tT 14)])]) (.cond (tT 15) (.draw [⟨0,oO 16 (.load false 1 (tT 3)),0,1,false⟩,⟨1,oM 17 4,0,0,false⟩,⟨2,oO 18 (kC 104 [(tT 17)]),2,0,false⟩,⟨3,
 ⟨(some 19),.bslice [(.string ⟨#[]⟩)] 1 [(0,(tT 18))],none⟩,6,0,false⟩,⟨4,⟨(some 20),.append [(.string ⟨#[]⟩)] 16 (tT 16) (tT 19),none⟩,15,1,false⟩,⟨5,⟨none,.store 1 (tT 3) (tT 20),none⟩,31,1,false⟩]) .skip)) (sQ (.region [oO 21 (.faddr 1 (tT 1)),
 oO 22 (.load true 1 (tT 21)),oM 23 4,oO 24 (kC 72 [(tT 22),(tT 23)])]) (.cond (tT 24) (.draw [⟨0,oO 25 (.load false 1 (tT 3)),0,1,false⟩,⟨1,oM 26 4,0,0,false⟩,⟨2,oO 27 (kC 104 [(tT 26)]),2,0,false⟩,⟨3,
 ⟨(some 28),.bin .add .num (.const (.string ⟨#[33]⟩)) (tT 27),none⟩,6,0,false⟩,⟨4,⟨(some 29),.bslice [(.string ⟨#[]⟩)] 1 [(0,(tT 28))],none⟩,14,0,false⟩,⟨5,⟨(some 30),.append [(.string ⟨#[]⟩)] 16 (tT 25) (tT 29),
 none⟩,31,1,false⟩,⟨6,⟨none,.store 1 (tT 3) (tT 30),none⟩,63,1,false⟩]) .skip))))))) (sQ (sQ (.region [oO 31 (.load false 1 (tT 3)),oO 32 (.len (tT 31)),oO 33 (.bin .eql .num (tT 32) (kI 0))]) (.cond (tT 33) (sQ (.region [⟨(some 2),
 .mov (.const (.string ⟨#[102,117,108,108]⟩)),none⟩]) .ret) .skip)) (sQ (.region [oO 34 (.load false 1 (tT 3)),⟨(some 35),kC 100 [(tT 34),(.const (.string ⟨#[32]⟩))],none⟩,oM 2 35]) .ret)))))
theorem ok54 : FnOk Tryz.prog 54 36 ir54 [.tmp 2] := Z8 mixed Tryz.func54 (by kernel_rfl) Tryz.ntmps54 (by kernel_rfl) (by kernel_rfl)
def ir56 : ACode := (sQ (.region [oO 6 (.alloc [(.int .i64 0),(.int .i64 0),nS,nS])]) (sQ (.region [oM 8 0,oO 9 (.build [nS,(.int .i64 0)] [(0,1,(tT 8))]),oO 10 (.box (tT 9)),oM 7 10]) (sQ (.region [oM 11 7,
 oM 12 1,oM 13 2,oO 14 (kC 109 [(tT 11),(kI 4),(tT 12),(tT 13)]),⟨none,.store 4 (tT 6) (tT 14),none⟩]) .ret)))
theorem ok56 : FnOk Tryz.prog 56 15 ir56 [.cell 6 true 4] := Z8 mixed Tryz.func56 (by kernel_rfl) Tryz.ntmps56 (by kernel_rfl) (by kernel_rfl)
def ir57 : ACode := (sQ (.region [oO 2 (.mov (.const nS))]) (sQ (.region [oO 3 (.mov (.const nS))]) (sQ (sQ (.region [oO 4 (.mov (kI 0))]) (.block 0 (.loop (sQ (sQ (.region [oM 9 4,oO 10 (.bin .lss .num (tT 9) (kI 6))]) (.cond (tT 10) .skip (.exit 0))) (sQ (.block 1 (.region [oM 13 3,
 oM 14 4,oM 15 0,oO 16 (.bin .shr .num (tT 15) (.const (.int .u64 16))),oO 17 (.bin .rem .num (tT 16) (.const (.int .u64 2))),oO 18 (.conv .i64 (tT 17)),oO 19 (.bin .mul .num (kI 4) (tT 18)),oO 20 (.bin .add .num (kI 1) (tT 19)),
 oO 21 (.bin .mul .num (tT 14) (tT 20)),oM 22 0,oO 23 (.bin .shr .num (tT 22) (.const (.int .u64 17))),oO 24 (.bin .rem .num (tT 23) (.const (.int .u64 6))),oO 25 (.conv .i64 (tT 24)),oO 26 (.bin .add .num (tT 21) (tT 25)),
 oO 27 (.bin .rem .num (tT 26) (kI 6)),oO 28 (.bin .add .num (kI 1) (tT 27)),oO 29 (.bslice [(.int .i64 0)] 1 [(0,(tT 28))]),oO 30 (.append [(.int .i64 0)] 8 (tT 13) (tT 29)),oM 3 30])) (.region [oM 11 4,
 oO 12 (.bin .add .num (tT 11) (kI 1)),oM 4 12])))))) (sQ (.region [oO 5 (.mov (.const nS))]) (sQ (.region [oO 6 (.mov (kI 0))]) (sQ (sQ (.region [oO 7 (.mov (kI 0))]) (.block 2 (.loop (sQ (sQ (.region [oM 31 7,
 oO 32 (.bin .lss .num (tT 31) (kI 6))]) (.cond (tT 32) .skip (.exit 2))) (sQ (.block 3 (sQ (.region [oM 35 7,oO 36 (.bin .add .num (tT 35) (kI 1)),oM 8 36]) (.block 4 (.loop (sQ (sQ (.region [oM 37 8,oO 38 (.bin .lss .num (tT 37) (kI 6))]) (.cond (tT 38) .skip (.exit 4))) (sQ (.block 5 (sQ (sQ (.region [oM 41 0,
 oM 42 6,oO 43 (.bin .shr .num (tT 41) (tT 42)),oO 44 (.bin .rem .num (tT 43) (.const (.int .u64 2))),oO 45 (.bin .eql .num (tT 44) (.const (.int .u64 1)))]) (.cond (tT 45) (.draw [⟨0,oM 47 5,0,0,false⟩,
 ⟨1,oM 48 3,0,0,false⟩,⟨2,oM 49 7,0,0,false⟩,⟨3,oO 50 (.iaddr 1 (tT 48) (tT 49)),6,0,false⟩,⟨4,oO 51 (.load false 1 (tT 50)),14,0,false⟩,⟨5,oM 52 3,0,0,false⟩,⟨6,oM 53 8,0,0,false⟩,⟨7,oO 54 (.iaddr 1 (tT 52) (tT 53)),
 96,0,false⟩,⟨8,oO 55 (.load false 1 (tT 54)),224,0,false⟩,⟨9,oO 56 (kC 110 [(tT 47),(tT 51),(tT 55)]),511,1,false⟩,⟨10,oM 46 56,1023,1,false⟩,⟨11,oO 57 (.extract (tT 46) 0),2047,1,false⟩,⟨12,oO 58 (.extract (tT 46) 1),
 2047,1,false⟩,⟨13,oM 5 57,4095,1,false⟩]) .skip)) (.region [oM 59 6,oO 60 (.bin .add .num (tT 59) (kI 1)),oM 6 60]))) (.region [oM 39 8,oO 40 (.bin .add .num (tT 39) (kI 1)),oM 8 40]))))))) (.region [oM 33 7,
 oO 34 (.bin .add .num (tT 33) (kI 1)),oM 7 34])))))) (sQ (.region [oM 61 5,oM 2 61]) .ret)))))))
theorem ok57 : FnOk Tryz.prog 57 62 ir57 [.tmp 2] := Z8 mixed Tryz.func57 (by kernel_rfl) Tryz.ntmps57 (by kernel_rfl) (by kernel_rfl)
def ir58 : ACode := (sQ (.region [oO 2 (.mov (.const nS))]) (sQ (.region [oO 3 (.mov (.const nS))]) (sQ (sQ (.region [oO 4 (.mov (kI 0))]) (.block 0 (.loop (sQ (sQ (.region [oM 5 4,oO 6 (.bin .lss .num (tT 5) (kI 64))]) (.cond (tT 6) .skip (.exit 0))) (sQ (.block 1 (sQ (.region [oM 9 0,
 oM 10 4,oO 11 (.bin .shr .num (tT 9) (tT 10)),oO 12 (.bin .rem .num (tT 11) (.const (.int .u64 2))),oO 13 (.bin .eql .num (tT 12) (.const (.int .u64 1)))]) (.cond (tT 13) (.region [oM 14 3,oM 15 4,oO 16 (.bslice [(.int .i64 0)] 1 [(0,
 (tT 15))]),oO 17 (.append [(.int .i64 0)] 8 (tT 14) (tT 16)),oM 3 17]) .skip))) (.region [oM 7 4,oO 8 (.bin .add .num (tT 7) (kI 1)),oM 4 8])))))) (sQ (.region [oM 18 3,oM 2 18]) .ret))))
theorem ok58 : FnOk Tryz.prog 58 19 ir58 [.tmp 2] := Z8 mixed Tryz.func58 (by kernel_rfl) Tryz.ntmps58 (by kernel_rfl) (by kernel_rfl)
def ir59 : ACode := (sQ (.region [oO 1 (.box (tT 0)),oO 2 (.mov (.const (.int .u8 0))),oO 3 (.mov (kI 0))]) (sQ (sQ (.region [oO 5 (.load true 4 (tT 1)),oO 6 (kC 94 [(tT 5),(.const (.int .u8 0))]),oM 4 6]) (sQ (.region [oM 7 4,
 oO 8 (.bin .neq .num (tT 7) (kI 0))]) (.cond (tT 8) (sQ (.region [oM 9 4,oO 2 (.mov (.const (.int .u8 0))),oM 3 9]) .ret) .skip))) (sQ (sQ (.region [oO 10 (.load true 4 (tT 1)),oO 11 (kC 95 [(tT 10)]),
 oO 12 (.una .not (tT 11))]) (.cond (tT 12) (sQ (.region [oO 2 (.mov (.const (.int .u8 0))),oO 3 (.mov (kI 10))]) .ret) .skip)) (sQ (.region [oO 13 (.faddr 0 (tT 1)),oO 14 (.load false 1 (tT 13)),oO 15 (kC 96 [(tT 14)]),
 oM 2 15,oO 3 (.mov (kI 0))]) .ret))))
theorem ok59 : FnOk Tryz.prog 59 16 ir59 [.tmp 2, .tmp 3] := Z8 mixed Tryz.func59 (by kernel_rfl) Tryz.ntmps59 (by kernel_rfl) (by kernel_rfl)
def ir60 : ACode := (sQ (.region [oO 2 (.box (tT 0)),oO 3 (.box (tT 1)),oO 4 (.mov (kI 0))]) (sQ (sQ (.region [oO 10 (.faddr 0 (tT 3)),oO 11 (.load false 1 (tT 10))]) (.block 0 (sQ (.region [oO 13 (.bin .eql .num (tT 11) (.const (.int .u8 1))),
 oM 12 13]) (.cond (tT 12) (sQ (.region [oO 14 (.faddr 1 (tT 3)),oO 15 (.load false 1 (tT 14)),oM 4 15]) .ret) (sQ (.region [oO 17 (.bin .eql .num (tT 11) (.const (.int .u8 2))),oM 16 17]) (.cond (tT 16) (sQ (.region [oO 4 (.mov (kI 1))]) .ret) (sQ (.region [oO 19 (.bin .eql .num (tT 11) (.const (.int .u8 3))),
 oM 18 19]) (.cond (tT 18) (sQ (.region [oO 4 (.mov (kI 0))]) .ret) (sQ (sQ (.region [oO 21 (.bin .eql .num (tT 11) (.const (.int .u8 4))),oM 20 21]) (.cond (tT 20) .skip (.region [oO 22 (.bin .eql .num (tT 11) (.const (.int .u8 5))),
 oM 20 22]))) (.cond (tT 20) (sQ (.region [oO 5 (.mov (kI 0))]) (sQ (sQ (.region [oO 23 (.faddr 2 (tT 3)),oO 24 (.load false 1 (tT 23)),oO 25 (.len (tT 24)),oO 26 (.mov (kI 0))]) (.block 1 (.loop (sQ (.region [oO 27 (.bin .lss .num (tT 26) (tT 25))]) (sQ (.cond (tT 27) .skip (.exit 1)) (sQ (.block 2 (sQ (.region [oO 28 (.iaddr 1 (tT 24) (tT 26)),
 oO 29 (.load false 1 (tT 28)),oM 7 29]) (.region [oM 30 5,oO 31 (.faddr 0 (tT 2)),oO 32 (.load true 1 (tT 31)),oM 33 7,oO 34 (kC 72 [(tT 32),(tT 33)]),oO 35 (kC 111 [(tT 34)]),oO 36 (.bin .add .num (tT 30) (tT 35)),
 oM 5 36]))) (.region [oO 37 (.bin .add .num (tT 26) (kI 1)),oM 26 37]))))))) (sQ (.region [oM 38 5,oM 4 38]) .ret))) (sQ (.region [oO 40 (.bin .eql .num (tT 11) (.const (.int .u8 6))),oM 39 40]) (.cond (tT 39) (sQ (.draw [⟨0,
 oO 41 (.load true 2 (tT 2)),0,0,false⟩,⟨1,oO 42 (.faddr 2 (tT 3)),0,0,false⟩,⟨2,oO 43 (.load false 1 (tT 42)),2,0,false⟩,⟨3,oO 44 (.iaddr 1 (tT 43) (kI 0)),6,0,false⟩,⟨4,oO 45 (.load false 1 (tT 44)),14,
 0,false⟩,⟨5,oO 46 (kC 112 [(tT 41),(tT 45)]),31,1,false⟩,⟨6,oM 4 46,63,1,false⟩]) .ret) (sQ (.region [oO 48 (.bin .eql .num (tT 11) (.const (.int .u8 7))),oM 47 48]) (.cond (tT 47) (sQ (.draw [⟨0,oO 49 (.load true 2 (tT 2)),
 0,0,false⟩,⟨1,oO 50 (.faddr 3 (tT 3)),0,0,false⟩,⟨2,oO 51 (.load false 1 (tT 50)),2,0,false⟩,⟨3,oO 52 (.iaddr 4 (tT 51) (kI 0)),6,0,false⟩,⟨4,oO 53 (.load true 4 (tT 52)),14,0,false⟩,⟨5,oO 54 (kC 60 [(tT 49),
 (tT 53)]),31,1,false⟩,⟨6,oO 55 (.bin .sub .num (kI 1) (tT 54)),63,1,false⟩,⟨7,oM 4 55,127,1,false⟩]) .ret) .skip)))))))))))))) (sQ (.draw [⟨0,oO 56 (.load true 2 (tT 2)),0,0,false⟩,⟨1,oO 57 (.faddr 3 (tT 3)),
 0,0,false⟩,⟨2,oO 58 (.load false 1 (tT 57)),2,0,false⟩,⟨3,oO 59 (.iaddr 4 (tT 58) (kI 0)),6,0,false⟩,⟨4,oO 60 (.load true 4 (tT 59)),14,0,false⟩,⟨5,oO 61 (kC 60 [(tT 56),(tT 60)]),31,0,false⟩,⟨6,oO 62 (.load true 2 (tT 2)),
 0,0,false⟩,⟨7,oO 63 (.faddr 3 (tT 3)),0,0,false⟩,⟨8,oO 64 (.load false 1 (tT 63)),128,0,false⟩,⟨9,oO 65 (.iaddr 4 (tT 64) (kI 1)),384,0,false⟩,⟨10,oO 66 (.load true 4 (tT 65)),896,0,false⟩,⟨11,oO 67 (kC 60 [(tT 62),
 (tT 66)]),2047,1,false⟩,⟨12,oM 8 61,4095,1,false⟩,⟨13,oM 9 67,8191,1,false⟩]) (sQ (sQ (.region [oO 68 (.faddr 0 (tT 3)),oO 69 (.load false 1 (tT 68))]) (.block 3 (sQ (.region [oO 71 (.bin .eql .num (tT 69) (.const (.int .u8 8))),
 oM 70 71]) (.cond (tT 70) (sQ (.region [oM 72 8,oM 73 9,oO 74 (.bin .mul .num (tT 72) (tT 73)),oM 4 74]) .ret) (sQ (.region [oO 76 (.bin .eql .num (tT 69) (.const (.int .u8 9))),oM 75 76]) (.cond (tT 75) (sQ (.region [oM 77 8,
 oM 78 9,oO 79 (.mx (tT 77) (tT 78)),oM 4 79]) .ret) (sQ (.region [oO 81 (.bin .eql .num (tT 69) (.const (.int .u8 10))),oM 80 81]) (.cond (tT 80) (sQ (.region [oM 82 8,oO 83 (.bin .sub .num (kI 1) (tT 82)),
 oM 84 9,oO 85 (.mx (tT 83) (tT 84)),oM 4 85]) .ret) (sQ (.region [oO 87 (.bin .eql .num (tT 69) (.const (.int .u8 11))),oM 86 87]) (.cond (tT 86) (sQ (.region [oM 88 8,oM 89 9,oO 90 (.bin .leq .num (tT 88) (tT 89)),
 oO 91 (kC 111 [(tT 90)]),oM 4 91]) .ret) (sQ (.region [oO 93 (.bin .eql .num (tT 69) (.const (.int .u8 12))),oM 92 93]) (.cond (tT 92) (sQ (.region [oM 94 8,oM 95 9,oO 96 (.bin .lss .num (tT 94) (tT 95)),
 oO 97 (kC 111 [(tT 96)]),oM 4 97]) .ret) (sQ (.region [oO 99 (.bin .eql .num (tT 69) (.const (.int .u8 13))),oM 98 99]) (.cond (tT 98) (sQ (.region [oM 100 8,oM 101 9,oO 102 (.bin .geq .num (tT 100) (tT 101)),
 oO 103 (kC 111 [(tT 102)]),oM 4 103]) .ret) (sQ (.region [oO 105 (.bin .eql .num (tT 69) (.const (.int .u8 14))),oM 104 105]) (.cond (tT 104) (sQ (.region [oM 106 8,oM 107 9,oO 108 (.bin .gtr .num (tT 106) (tT 107)),
 oO 109 (kC 111 [(tT 108)]),oM 4 109]) .ret) (sQ (.region [oO 111 (.bin .eql .num (tT 69) (.const (.int .u8 15))),oM 110 111]) (.cond (tT 110) (sQ (.region [oM 112 8,oM 113 9,oO 114 (.bin .eql .num (tT 112) (tT 113)),
 oO 115 (kC 111 [(tT 114)]),oM 4 115]) .ret) .skip)))))))))))))))))) (sQ (.region [oM 116 8,oM 117 9,oO 118 (.bin .add .num (tT 116) (tT 117)),oM 4 118]) .ret)))))
theorem ok60 : FnOk Tryz.prog 60 119 ir60 [.tmp 4] := Z8 mixed Tryz.func60 (by kernel_rfl) Tryz.ntmps60 (by kernel_rfl) (by kernel_rfl)
def ir61 : ACode := (sQ (.region [oO 4 (.alloc [nS])]) (sQ (sQ (.region [oM 5 0,oO 6 (.bin .eql .ptr (tT 5) (.const (.pointer none))),oM 7 6,oF 7 8 (.mov (tT 1)),oF 7 9 (kC 102 [(tT 8)]),oF 7 10 (.una .not (tT 9)),
 oO 11 (.pick (tT 7) kT (tT 10))]) (.cond (tT 11) (sQ (.region [oO 12 (.build [nS] []),⟨none,.store 1 (tT 4) (tT 12),none⟩]) .ret) .skip)) (sQ (.region [oM 13 0,oO 14 (.nilck (tT 13)),oO 15 (.faddr 0 (tT 14)),
 oO 16 (.load false 1 (tT 15)),oM 17 1,oO 18 (kC 113 [(tT 16),(tT 17)]),oM 19 1,oO 20 (kC 114 [(tT 18),(tT 19)]),⟨none,.store 1 (tT 4) (tT 20),none⟩]) .ret)))
theorem ok61 : FnOk Tryz.prog 61 21 ir61 [.cell 4 true 1] := Z8 mixed Tryz.func61 (by kernel_rfl) Tryz.ntmps61 (by kernel_rfl) (by kernel_rfl)
def ir62 : ACode := (sQ (.region [oO 3 (.box (tT 0)),oO 5 (.box (tT 2)),oO 6 (.mov (kI 0))]) (sQ (sQ (.draw [⟨0,oM 7 1,0,1,false⟩,⟨1,oO 8 (.bin .eql .ptr (tT 7) (.const (.pointer none))),1,1,false⟩,⟨2,
 oM 9 8,3,1,false⟩,⟨3,oF 9 10 (.load true 1 (tT 5)),7,1,false⟩,⟨4,oF 9 11 (kC 72 [(tT 10),(kI 0)]),15,1,false⟩,⟨5,oO 12 (.pick (tT 9) kT (tT 11)),31,1,false⟩,⟨6,oM 13 12,63,1,false⟩,⟨7,oF 13 14 (.load true 1 (tT 5)),
 127,1,false⟩,⟨8,oF 13 15 (kC 46 [(kI 64)]),127,0,false⟩,⟨9,oF 13 16 (kC 23 [(tT 14),(tT 15)]),511,1,false⟩,⟨10,oF 13 17 (.una .not (tT 16)),1023,1,false⟩,⟨11,oO 18 (.pick (tT 13) kT (tT 17)),2047,1,false⟩]) (.cond (tT 18) (sQ (.region [oO 6 (.mov (kI 1))]) .ret) .skip)) (sQ (.region [oO 19 (.load true 4 (tT 3)),
 oO 20 (kC 45 [(tT 19),(.const (.int .u8 1))]),oM 6 20]) .ret)))
theorem ok62 : FnOk Tryz.prog 62 21 ir62 [.tmp 6] := Z8 mixed Tryz.func62 (by kernel_rfl) Tryz.ntmps62 (by kernel_rfl) (by kernel_rfl)
def ir63 : ACode := (sQ (.region [oO 4 (.mov (.const nS)),oO 5 (.mov (kI 0))]) (sQ (sQ (.region [oM 11 0,oO 12 (.len (tT 11)),oO 13 (.bin .gtr .num (tT 12) (kI 12))]) (.cond (tT 13) (sQ (.region [oO 4 (.mov (.const nS)),
 oO 5 (.mov (kI 3))]) .ret) .skip)) (sQ (.region [oO 6 (.mov (.const nS))]) (sQ (sQ (.region [oM 14 0,oO 15 (.len (tT 14)),oO 16 (.bin .shl .num (kI 1) (tT 15)),oO 17 (.mov (kI 0))]) (.block 0 (.loop (sQ (.region [oO 18 (.bin .lss .num (tT 17) (tT 16))]) (sQ (.cond (tT 18) .skip (.exit 0)) (sQ (.block 1 (sQ (.region [oM 19 17,
 oM 7 19]) (sQ (.region [oO 8 (.alloc [nS])]) (sQ (sQ (.region [oM 20 0,oO 21 (.len (tT 20)),oO 22 (.mov (kI 0))]) (.block 2 (.loop (sQ (.region [oO 23 (.bin .lss .num (tT 22) (tT 21))]) (sQ (.cond (tT 23) .skip (.exit 2)) (sQ (.block 3 (sQ (.region [oM 24 22,
 oO 25 (.iaddr 1 (tT 20) (tT 22)),oO 26 (.load false 1 (tT 25)),oM 9 24,oM 10 26]) (sQ (.region [oM 27 7,oM 28 9,oO 29 (.bin .shr .num (tT 27) (tT 28)),oO 30 (.bin .and .num (tT 29) (kI 1)),oO 31 (.bin .eql .num (tT 30) (kI 1))]) (.cond (tT 31) (.region [oO 32 (.load true 1 (tT 8)),
 oM 33 10,oO 34 (kC 114 [(tT 32),(tT 33)]),⟨none,.store 1 (tT 8) (tT 34),none⟩]) .skip)))) (.region [oO 35 (.bin .add .num (tT 22) (kI 1)),oM 22 35]))))))) (sQ (sQ (.draw [⟨0,oM 36 6,0,1,false⟩,⟨1,oO 37 (.len (tT 36)),
 1,1,false⟩,⟨2,oO 38 (.bin .gtr .num (tT 37) (kI 0)),3,1,false⟩,⟨3,oM 39 38,7,1,false⟩,⟨4,oT 39 40 (.load true 1 (tT 8)),15,0,false⟩,⟨5,oT 39 41 (kC 24 [(tT 40)]),31,0,false⟩,⟨6,oT 39 42 (.mov (tT 6)),15,
 0,false⟩,⟨7,oT 39 43 (.iaddr 1 (tT 42) (kI 0)),79,0,false⟩,⟨8,oT 39 44 (.load true 1 (tT 43)),207,0,false⟩,⟨9,oT 39 45 (kC 24 [(tT 44)]),511,1,false⟩,⟨10,oT 39 46 (.bin .gtr .num (tT 41) (tT 45)),1023,
 1,false⟩,⟨11,oO 47 (.pick (tT 39) (tT 46) kF),2047,1,false⟩,⟨12,oM 48 47,4095,1,false⟩,⟨13,oF 48 49 (.mov (tT 1)),8191,0,false⟩,⟨14,oF 48 50 (.load true 1 (tT 8)),8191,1,false⟩,⟨15,oF 48 51 (.call (tT 49) [(tT 50)]),
 32767,1,false⟩,⟨16,oF 48 52 (.una .not (tT 51)),65535,1,false⟩,⟨17,oO 53 (.pick (tT 48) kT (tT 52)),131071,1,false⟩]) (.cond (tT 53) (.exit 1) .skip)) (sQ (sQ (.draw [⟨0,oM 54 6,0,1,false⟩,⟨1,oO 55 (.len (tT 54)),
 1,1,false⟩,⟨2,oO 56 (.bin .gtr .num (tT 55) (kI 0)),3,1,false⟩,⟨3,oM 57 56,7,1,false⟩,⟨4,oT 57 58 (.load true 1 (tT 8)),15,0,false⟩,⟨5,oT 57 59 (kC 24 [(tT 58)]),31,0,false⟩,⟨6,oT 57 60 (.mov (tT 6)),15,
 0,false⟩,⟨7,oT 57 61 (.iaddr 1 (tT 60) (kI 0)),79,0,false⟩,⟨8,oT 57 62 (.load true 1 (tT 61)),207,0,false⟩,⟨9,oT 57 63 (kC 24 [(tT 62)]),511,1,false⟩,⟨10,oT 57 64 (.bin .lss .num (tT 59) (tT 63)),1023,
 1,false⟩,⟨11,oO 65 (.pick (tT 57) (tT 64) kF),2047,1,false⟩]) (.cond (tT 65) (.region [oM 66 6,oO 67 (.slc 1 (tT 66) none (some (kI 0)) none),oM 6 67]) .skip)) (.region [oM 68 6,oO 69 (.load true 1 (tT 8)),
 oO 70 (.bslice [nS] 1 [(0,(tT 69))]),oO 71 (.append [nS] 24 (tT 68) (tT 70)),oM 6 71]))))))) (.region [oO 72 (.bin .add .num (tT 17) (kI 1)),oM 17 72]))))))) (sQ (sQ (.region [oM 73 6,oO 74 (.len (tT 73)),
 oO 75 (.bin .eql .num (tT 74) (kI 0))]) (.cond (tT 75) (sQ (.region [oO 4 (.mov (.const nS)),oO 5 (.mov (kI 4))]) .ret) .skip)) (sQ (.region [oM 76 6,oO 77 (kC 115 [(tT 76),(.func 116)])]) (sQ (.region [oM 78 6,
 oM 4 78,oO 5 (.mov (kI 0))]) .ret)))))))
theorem ok63 : FnOk Tryz.prog 63 79 ir63 [.tmp 4, .tmp 5] := Z8 mixed Tryz.func63 (by kernel_rfl) Tryz.ntmps63 (by kernel_rfl) (by kernel_rfl)
def ir64 : ACode := (sQ (.region [oO 1 (.box (tT 0)),oO 2 (.mov (.const nS))]) (sQ (.region [oO 5 (.load true 1 (tT 1)),oO 6 (kC 24 [(tT 5)]),oO 7 (.mslice [(.int .i64 0)] 8 (kI 0) (tT 6)),oO 3 (.alloc [nS]),
 ⟨none,.store 1 (tT 3) (tT 7),none⟩]) (sQ (sQ (.region [oO 8 (.load true 1 (tT 1)),oO 9 (kC 26 [(tT 8)])]) (.block 0 (.range (tT 9) [10] [(4,(tT 10))] (.block 1 (.region [oO 11 (.load false 1 (tT 3)),oM 12 4,
 oO 13 (.bslice [(.int .i64 0)] 1 [(0,(tT 12))]),oO 14 (.append [(.int .i64 0)] 8 (tT 11) (tT 13)),⟨none,.store 1 (tT 3) (tT 14),none⟩]))))) (sQ (.region [oO 15 (.load false 1 (tT 3)),oM 2 15]) .ret))))
theorem ok64 : FnOk Tryz.prog 64 16 ir64 [.tmp 2] := Z8 mixed Tryz.func64 (by kernel_rfl) Tryz.ntmps64 (by kernel_rfl) (by kernel_rfl)
def ir65 : ACode := (sQ (.region [oO 4 (.box (tT 0)),oO 5 (.mov kF)]) (sQ (.draw [⟨0,oO 6 (.load true 4 (tT 1)),0,0,false⟩,⟨1,oO 7 (.load false 1 (tT 2)),0,0,false⟩,⟨2,oO 8 (.load true 1 (tT 3)),0,0,false⟩,
 ⟨3,oO 9 (.load true 1 (tT 4)),0,0,false⟩,⟨4,oO 10 (kC 25 [(tT 8),(tT 9)]),12,0,false⟩,⟨5,oO 11 (kC 19 [(tT 7),(tT 10)]),30,0,false⟩,⟨6,oO 12 (kC 18 [(tT 6),(tT 11),(.const nS)]),63,1,false⟩,⟨7,oM 5 12,
 127,1,false⟩]) .ret))
theorem ok65 : FnOk Tryz.prog 65 13 ir65 [.tmp 5] := Z8 mixed Tryz.func65 (by kernel_rfl) Tryz.ntmps65 (by kernel_rfl) (by kernel_rfl)
def ir66 : ACode := (sQ (.region [oO 4 (.box (tT 0)),oO 5 (.mov kF)]) (sQ (.draw [⟨0,oO 6 (.load true 4 (tT 1)),0,0,false⟩,⟨1,oO 7 (.load false 1 (tT 2)),0,0,false⟩,⟨2,oO 8 (.load true 1 (tT 3)),0,0,false⟩,
 ⟨3,oO 9 (.load true 1 (tT 4)),0,0,false⟩,⟨4,oO 10 (kC 29 [(tT 8),(tT 9)]),12,0,false⟩,⟨5,oO 11 (kC 19 [(tT 7),(tT 10)]),30,0,false⟩,⟨6,oO 12 (kC 18 [(tT 6),(tT 11),(.const nS)]),63,1,false⟩,⟨7,oM 5 12,
 127,1,false⟩]) .ret))
theorem ok66 : FnOk Tryz.prog 66 13 ir66 [.tmp 5] := Z8 mixed Tryz.func66 (by kernel_rfl) Tryz.ntmps66 (by kernel_rfl) (by kernel_rfl)
def ir67 : ACode := (sQ (.region [oO 2 (.box (tT 0)),oO 4 (.mov (.const (.int .u64 0)))]) (sQ (sQ (.region [oM 5 1,oO 6 (.faddr 0 (tT 2)),oO 7 (.load false 1 (tT 6)),oO 8 (.len (tT 7)),oO 9 (.bin .lss .num (tT 5) (tT 8))]) (.cond (tT 9) (sQ (.region [oO 10 (.faddr 0 (tT 2)),
 oO 11 (.load false 1 (tT 10)),oM 12 1,oO 13 (.iaddr 1 (tT 11) (tT 12)),oO 14 (.load false 1 (tT 13)),oM 4 14]) .ret) .skip)) (sQ (.region [oO 4 (.mov (.const (.int .u64 0)))]) .ret)))
theorem ok67 : FnOk Tryz.prog 67 15 ir67 [.tmp 4] := Z8 mixed Tryz.func67 (by kernel_rfl) Tryz.ntmps67 (by kernel_rfl) (by kernel_rfl)
def ir68 : ACode := (sQ (.region [oO 2 (.mov (kI 0))]) (sQ (.region [oM 3 0,oO 4 (.bin .shr .num (tT 3) (.const (.int .u64 1))),oO 5 (.bin .and .num (tT 4) (.const (.int .u64 6148914691236517205))),oM 6 0,
 oO 7 (.bin .and .num (tT 6) (.const (.int .u64 6148914691236517205))),oO 8 (.bin .add .num (tT 5) (tT 7)),oM 0 8]) (sQ (.region [oM 9 0,oO 10 (.bin .shr .num (tT 9) (.const (.int .u64 2))),oO 11 (.bin .and .num (tT 10) (.const (.int .u64 3689348814741910323))),
 oM 12 0,oO 13 (.bin .and .num (tT 12) (.const (.int .u64 3689348814741910323))),oO 14 (.bin .add .num (tT 11) (tT 13)),oM 0 14]) (sQ (.region [oM 15 0,oO 16 (.bin .shr .num (tT 15) (.const (.int .u64 4))),
 oM 17 0,oO 18 (.bin .add .num (tT 16) (tT 17)),oO 19 (.bin .and .num (tT 18) (.const (.int .u64 1085102592571150095))),oM 0 19]) (sQ (.region [oM 20 0,oM 21 0,oO 22 (.bin .shr .num (tT 21) (.const (.int .u64 8))),
 oO 23 (.bin .add .num (tT 20) (tT 22)),oM 0 23]) (sQ (.region [oM 24 0,oM 25 0,oO 26 (.bin .shr .num (tT 25) (.const (.int .u64 16))),oO 27 (.bin .add .num (tT 24) (tT 26)),oM 0 27]) (sQ (.region [oM 28 0,
 oM 29 0,oO 30 (.bin .shr .num (tT 29) (.const (.int .u64 32))),oO 31 (.bin .add .num (tT 28) (tT 30)),oM 0 31]) (sQ (.region [oM 32 0,oO 33 (.conv .i64 (tT 32)),oO 34 (.bin .and .num (tT 33) (kI 127)),
 oM 2 34]) .ret))))))))
theorem ok68 : FnOk Tryz.prog 68 35 ir68 [.tmp 2] := Z8 mixed Tryz.func68 (by kernel_rfl) Tryz.ntmps68 (by kernel_rfl) (by kernel_rfl)
def ir69 : ACode := (sQ (.region [oO 2 (.alloc [nS])]) (sQ (.block 0 (.loop (sQ (sQ (.region [oM 3 0,oO 4 (.len (tT 3)),oO 5 (.bin .gtr .num (tT 4) (kI 0)),oM 6 5,oT 6 7 (.mov (tT 0)),oT 6 8 (.mov (tT 0)),
 oT 6 9 (.len (tT 8)),oT 6 10 (.bin .sub .num (tT 9) (kI 1)),oT 6 11 (.iaddr 1 (tT 7) (tT 10)),oT 6 12 (.load false 1 (tT 11)),oT 6 13 (.bin .eql .num (tT 12) (.const (.int .u64 0))),oO 14 (.pick (tT 6) (tT 13) kF)]) (.cond (tT 14) .skip (.exit 0))) (.block 1 (.region [oM 15 0,
 oM 16 0,oO 17 (.len (tT 16)),oO 18 (.bin .sub .num (tT 17) (kI 1)),oO 19 (.slc 1 (tT 15) none (some (tT 18)) none),oM 0 19]))))) (sQ (.region [oM 20 0,oO 21 (.build [nS] [(0,1,(tT 20))]),⟨none,.store 1 (tT 2) (tT 21),
 none⟩]) .ret)))
theorem ok69 : FnOk Tryz.prog 69 22 ir69 [.cell 2 true 1] := Z8 mixed Tryz.func69 (by kernel_rfl) Tryz.ntmps69 (by kernel_rfl) (by kernel_rfl)
def ir70 : ACode := (sQ (.region [oO 5 (.faddr 0 (tT 1)),oO 6 (.load false 1 (tT 5)),oO 7 (.len (tT 6)),oO 8 (.mov (kI 0))]) (.block 0 (.loop (sQ (.region [oO 9 (.bin .lss .num (tT 8) (tT 7))]) (sQ (.cond (tT 9) .skip (.exit 0)) (sQ (.block 1 (sQ (.region [oM 10 8,
 oO 11 (.iaddr 1 (tT 6) (tT 8)),oO 12 (.load false 1 (tT 11)),oM 3 10,oM 4 12]) (.block 2 (.loop (sQ (sQ (.region [oM 13 4,oO 14 (.bin .neq .num (tT 13) (.const (.int .u64 0)))]) (.cond (tT 14) .skip (.exit 2))) (sQ (.block 3 (sQ (.region [oM 19 0,
 oM 20 3,oO 21 (.bin .mul .num (kI 64) (tT 20)),oM 22 4,oO 23 (kC 71 [(tT 22)]),oO 24 (.bin .add .num (tT 21) (tT 23)),oO 25 (.call (tT 19) [(tT 24)]),oO 26 (.una .not (tT 25))]) (.cond (tT 26) .ret .skip))) (.region [oM 15 4,
 oM 16 4,oO 17 (.bin .sub .num (tT 16) (.const (.int .u64 1))),oO 18 (.bin .and .num (tT 15) (tT 17)),oM 4 18]))))))) (.region [oO 27 (.bin .add .num (tT 8) (kI 1)),oM 8 27])))))))
theorem ok70 : FnOk Tryz.prog 70 28 ir70 [] := Z8 mixed Tryz.func70 (by kernel_rfl) Tryz.ntmps70 (by kernel_rfl) (by kernel_rfl)
def ir71 : ACode := (sQ (.region [oO 2 (.mov (kI 0))]) (sQ (sQ (.region [oM 3 0,oO 4 (.bin .eql .num (tT 3) (.const (.int .u64 0)))]) (.cond (tT 4) (sQ (.region [oO 2 (.mov (kI 64))]) .ret) .skip)) (sQ (.region [oM 5 0,
 oM 6 0,oO 7 (.una .neg (tT 6)),oO 8 (.bin .and .num (tT 5) (tT 7)),oO 9 (.bin .mul .num (tT 8) (.const (.int .u64 285870213051353865))),oO 10 (.bin .shr .num (tT 9) (.const (.int .u64 58))),oO 11 (.iaddrA 64 1 (.global 0) (tT 10)),
 oO 12 (.load false 1 (tT 11)),oO 13 (.conv .i64 (tT 12)),oM 2 13]) .ret)))
theorem ok71 : FnOk Tryz.prog 71 14 ir71 [.tmp 2] := Z8 mixed Tryz.func71 (by kernel_rfl) Tryz.ntmps71 (by kernel_rfl) (by kernel_rfl)
def ir72 : ACode := (sQ (.region [oO 2 (.box (tT 0)),oO 4 (.mov kF)]) (sQ (.region [oM 5 1,oO 6 (.bin .geq .num (tT 5) (kI 0)),oM 7 6,oT 7 8 (.mov (tT 1)),oT 7 9 (.bin .leq .num (tT 8) (kI 4095)),oO 10 (.pick (tT 7) (tT 9) kF),
 oM 11 10,oT 11 12 (.load true 1 (tT 2)),oT 11 13 (.mov (tT 1)),oT 11 14 (.bin .quo .num (tT 13) (kI 64)),oT 11 15 (kC 67 [(tT 12),(tT 14)]),oT 11 16 (.mov (tT 1)),oT 11 17 (.bin .rem .num (tT 16) (kI 64)),
 oT 11 18 (.bin .shr .num (tT 15) (tT 17)),oT 11 19 (.bin .and .num (tT 18) (.const (.int .u64 1))),oT 11 20 (.bin .eql .num (tT 19) (.const (.int .u64 1))),oO 21 (.pick (tT 11) (tT 20) kF),oM 4 21]) .ret))
theorem ok72 : FnOk Tryz.prog 72 22 ir72 [.tmp 4] := Z8 mixed Tryz.func72 (by kernel_rfl) Tryz.ntmps72 (by kernel_rfl) (by kernel_rfl)
def ir78 : ACode := (sQ (.region [oO 5 (.box (tT 0)),oO 10 (.mov (.const nS))]) (sQ (.region [oO 11 (.mov (.const nS))]) (sQ (sQ (.region [oO 12 (.mov (kI 0))]) (.block 0 (.loop (sQ (sQ (.region [oM 17 12,
 oO 18 (.bin .leq .num (tT 17) (kI 8)),oM 19 18,oT 19 20 (.mov (tT 11)),oT 19 21 (.len (tT 20)),oT 19 22 (.bin .eql .num (tT 21) (kI 0)),oO 23 (.pick (tT 19) (tT 22) kF)]) (.cond (tT 23) .skip (.exit 0))) (sQ (.block 1 (sQ (.region [oO 13 (.mov (.const (.int .u64 0)))]) (.block 2 (.loop (sQ (sQ (.region [oM 26 13,
 oO 27 (.bin .lss .num (tT 26) (.const (.int .u64 256)))]) (.cond (tT 27) .skip (.exit 2))) (sQ (.block 3 (sQ (sQ (.region [oM 30 13,oM 31 3,oO 32 (.bin .and .num (tT 30) (tT 31)),oM 33 13,oO 34 (.bin .neq .num (tT 32) (tT 33)),
 oM 35 34,oF 35 36 (.mov (tT 13)),oF 35 37 (kC 58 [(tT 36)]),oF 35 38 (.len (tT 37)),oF 35 39 (.mov (tT 12)),oF 35 40 (.bin .neq .num (tT 38) (tT 39)),oO 41 (.pick (tT 35) kT (tT 40))]) (.cond (tT 41) (.exit 3) .skip)) (sQ (.region [oM 42 2,
 oM 43 13,oO 44 (.bin .andNot .num (tT 42) (tT 43)),oM 14 44]) (sQ (sQ (.region [oM 45 4]) (.cond (tT 45) (.region [oM 46 2,oM 47 13,oO 48 (.bin .or .num (tT 46) (tT 47)),oM 14 48]) .skip)) (sQ (sQ (.region [oO 49 (.load true 4 (tT 5)),
 oM 50 1,oM 51 14,oO 52 (kC 118 [(tT 49),(tT 50),(tT 51)])]) (.cond (tT 52) (.exit 3) .skip)) (sQ (.region [oO 15 (.mov (kI 0))]) (sQ (.block 4 (.loop (sQ (sQ (.region [oM 53 15,oM 54 11,oO 55 (.len (tT 54)),
 oO 56 (.bin .lss .num (tT 53) (tT 55)),oM 57 56,oT 57 58 (.mov (tT 11)),oT 57 59 (.mov (tT 15)),oT 57 60 (.iaddr 1 (tT 58) (tT 59)),oT 57 61 (.load false 1 (tT 60)),oT 57 62 (kC 58 [(tT 61)]),oT 57 63 (.mov (tT 13)),
 oT 57 64 (kC 58 [(tT 63)]),oT 57 65 (kC 117 [(tT 62),(tT 64)]),oT 57 66 (.bin .lss .num (tT 65) (kI 0)),oO 67 (.pick (tT 57) (tT 66) kF)]) (.cond (tT 67) .skip (.exit 4))) (.block 5 (.region [oM 68 15,
 oO 69 (.bin .add .num (tT 68) (kI 1)),oM 15 69]))))) (sQ (.region [oM 70 13,oO 71 (.bslice [(.int .u64 0)] 1 [(0,(tT 70))]),oM 72 11,oM 73 15,oO 74 (.slc 1 (tT 72) (some (tT 73)) none none),oO 75 (.append [(.int .u64 0)] 8 (tT 71) (tT 74)),
 oM 16 75]) (.region [oO 76 (.bslice [(.int .u64 0)] 0 []),oM 77 11,oM 78 15,oO 79 (.slc 1 (tT 77) none (some (tT 78)) none),oO 80 (.append [(.int .u64 0)] 8 (tT 76) (tT 79)),oM 81 16,oO 82 (.append [(.int .u64 0)] 8 (tT 80) (tT 81)),
 oM 11 82]))))))))) (.region [oM 28 13,oO 29 (.bin .add .num (tT 28) (.const (.int .u64 1))),oM 13 29]))))))) (.region [oM 24 12,oO 25 (.bin .add .num (tT 24) (kI 1)),oM 12 25])))))) (sQ (.region [oM 83 11,
 oM 10 83]) .ret))))
theorem ok78 : FnOk Tryz.prog 78 84 ir78 [.tmp 10] := Z8 mixed Tryz.func78 (by kernel_rfl) Tryz.ntmps78 (by kernel_rfl) (by kernel_rfl)
def ir79 : ACode := (sQ (.region [oO 6 (.mov kF)]) (sQ (sQ (.region [oM 10 0,oO 11 (.len (tT 10)),oM 12 1,oO 13 (.len (tT 12)),oO 14 (.bin .neq .num (tT 11) (tT 13))]) (.cond (tT 14) (sQ (.region [oO 6 (.mov kF)]) .ret) .skip)) (sQ (sQ (.region [oM 15 0,
 oO 16 (.len (tT 15)),oO 17 (.mov (kI 0))]) (.block 0 (.loop (sQ (.region [oO 18 (.bin .lss .num (tT 17) (tT 16))]) (sQ (.cond (tT 18) .skip (.exit 0)) (sQ (.block 1 (sQ (.region [oM 19 17,oO 20 (.iaddr 1 (tT 15) (tT 17)),
 oO 21 (.load true 1 (tT 20)),oO 8 (.alloc [nS]),oM 7 19,⟨none,.store 1 (tT 8) (tT 21),none⟩]) (sQ (.region [oM 22 1,oM 23 7,oO 24 (.iaddr 1 (tT 22) (tT 23)),oO 25 (.load false 1 (tT 24)),oM 9 25]) (sQ (.region [oM 26 2,
 oO 27 (.load true 1 (tT 8)),oM 28 9,oO 29 (.call (tT 26) [(tT 27),(tT 28)]),oO 30 (.una .not (tT 29))]) (.cond (tT 30) (sQ (.region [oO 6 (.mov kF)]) .ret) .skip))))) (.region [oO 31 (.bin .add .num (tT 17) (kI 1)),
 oM 17 31]))))))) (sQ (.region [oO 6 (.mov kT)]) .ret))))
theorem ok79 : FnOk Tryz.prog 79 32 ir79 [.tmp 6] := Z8 mixed Tryz.func79 (by kernel_rfl) Tryz.ntmps79 (by kernel_rfl) (by kernel_rfl)
def ir80 : ACode := (sQ (.region [oO 2 (.box (tT 0)),oO 4 (.mov kF)]) (sQ (.draw [⟨0,oO 5 (.load true 1 (tT 2)),0,1,false⟩,⟨1,oM 6 1,0,0,false⟩,⟨2,oO 7 (kC 16 [(tT 6)]),2,0,false⟩,⟨3,oO 8 (kC 81 [(tT 5),
 (tT 7)]),7,1,false⟩,⟨4,oM 4 8,15,1,false⟩]) .ret))
theorem ok80 : FnOk Tryz.prog 80 9 ir80 [.tmp 4] := Z8 mixed Tryz.func80 (by kernel_rfl) Tryz.ntmps80 (by kernel_rfl) (by kernel_rfl)
def ir81 : ACode := (sQ (.region [oO 2 (.box (tT 0)),oO 3 (.box (tT 1)),oO 4 (.mov kF)]) (sQ (sQ (.region [oO 7 (.faddr 0 (tT 2)),oO 8 (.load false 1 (tT 7)),oO 9 (.len (tT 8)),oO 10 (.faddr 0 (tT 3)),
 oO 11 (.load false 1 (tT 10)),oO 12 (.len (tT 11)),oO 13 (.bin .neq .num (tT 9) (tT 12))]) (.cond (tT 13) (sQ (.region [oO 4 (.mov kF)]) .ret) .skip)) (sQ (sQ (.region [oO 14 (.faddr 0 (tT 2)),oO 15 (.load false 1 (tT 14)),
 oO 16 (.len (tT 15)),oO 17 (.mov (kI 0))]) (.block 0 (.loop (sQ (.region [oO 18 (.bin .lss .num (tT 17) (tT 16))]) (sQ (.cond (tT 18) .skip (.exit 0)) (sQ (.block 1 (sQ (.region [oM 19 17,oO 20 (.iaddr 1 (tT 15) (tT 17)),
 oO 21 (.load false 1 (tT 20)),oM 5 19,oM 6 21]) (sQ (.region [oM 22 6,oO 23 (.faddr 0 (tT 3)),oO 24 (.load false 1 (tT 23)),oM 25 5,oO 26 (.iaddr 1 (tT 24) (tT 25)),oO 27 (.load false 1 (tT 26)),oO 28 (.bin .neq .num (tT 22) (tT 27))]) (.cond (tT 28) (sQ (.region [oO 4 (.mov kF)]) .ret) .skip)))) (.region [oO 29 (.bin .add .num (tT 17) (kI 1)),
 oM 17 29]))))))) (sQ (.region [oO 4 (.mov kT)]) .ret))))
theorem ok81 : FnOk Tryz.prog 81 30 ir81 [.tmp 4] := Z8 mixed Tryz.func81 (by kernel_rfl) Tryz.ntmps81 (by kernel_rfl) (by kernel_rfl)
def ir82 : ACode := (sQ (.region [oO 4 (.mov (.const nS))]) (sQ (.region [oM 9 0,oM 10 1,oO 11 (.mkmap),oO 12 (.build [nS,.nilFunc,(.map none)] [(0,1,(tT 9)),(1,1,(tT 10)),(2,1,(tT 11))]),oO 13 (.box (tT 12)),
 oM 5 13]) (sQ (.region [oO 6 (.mov (.const nS))]) (sQ (sQ (.region [oM 14 0,oO 15 (.len (tT 14)),oO 16 (.bin .shl .num (kI 1) (tT 15)),oO 17 (.mov (kI 0))]) (.block 0 (.loop (sQ (.region [oO 18 (.bin .lss .num (tT 17) (tT 16))]) (sQ (.cond (tT 18) .skip (.exit 0)) (sQ (.block 1 (sQ (.region [oM 19 17,
 oM 7 19]) (sQ (.region [oM 20 0,oO 21 (.len (tT 20)),oO 22 (.bin .shl .num (kI 1) (tT 21)),oO 23 (.mov (kI 0))]) (.block 2 (.loop (sQ (.region [oO 24 (.bin .lss .num (tT 23) (tT 22))]) (sQ (.cond (tT 24) .skip (.exit 2)) (sQ (.block 3 (sQ (.region [oM 25 23,
 oM 8 25]) (sQ (.region [oM 26 7,oM 27 8,oO 28 (.bin .and .num (tT 26) (tT 27)),oO 29 (.bin .eql .num (tT 28) (kI 0)),oM 30 29,oT 30 31 (.mov (tT 5)),oT 30 32 (.mov (tT 7)),oT 30 33 (.mov (tT 8)),oT 30 34 (kC 119 [(tT 31),
 (tT 32),(tT 33)]),oO 35 (.pick (tT 30) (tT 34) kF)]) (.cond (tT 35) (.region [oM 36 6,oM 37 5,oM 38 7,oO 39 (kC 120 [(tT 37),(tT 38)]),oM 40 5,oM 41 8,oO 42 (kC 120 [(tT 40),(tT 41)]),oO 43 (.build [nS,
 nS] [(0,1,(tT 39)),(1,1,(tT 42))]),oO 44 (.bslice [nS,nS] 1 [(0,(tT 43))]),oO 45 (.append [nS,nS] 48 (tT 36) (tT 44)),oM 6 45]) .skip)))) (.region [oO 46 (.bin .add .num (tT 23) (kI 1)),oM 23 46]))))))))) (.region [oO 47 (.bin .add .num (tT 17) (kI 1)),
 oM 17 47]))))))) (sQ (.region [oM 48 6,oO 49 (kC 121 [(tT 48),(.func 122)])]) (sQ (.region [oM 50 6,oM 4 50]) .ret))))))
theorem ok82 : FnOk Tryz.prog 82 51 ir82 [.tmp 4] := Z8 mixed Tryz.func82 (by kernel_rfl) Tryz.ntmps82 (by kernel_rfl) (by kernel_rfl)
def ir83 : ACode := (sQ (.region [oO 1 (.box (tT 0)),oO 2 (.alloc [nS])]) (sQ (.region [oO 6 (.faddr 2 (tT 1)),oO 7 (.load false 1 (tT 6)),oO 8 (kC 48 [(tT 7)]),oO 3 (.alloc [nS]),⟨none,.store 1 (tT 3) (tT 8),
 none⟩]) (sQ (sQ (.region [oO 9 (.faddr 3 (tT 1)),oO 10 (.load false 1 (tT 9)),oO 11 (.len (tT 10)),oO 12 (.mov (kI 0))]) (.block 0 (.loop (sQ (.region [oO 13 (.bin .lss .num (tT 12) (tT 11))]) (sQ (.cond (tT 13) .skip (.exit 0)) (sQ (.block 1 (sQ (.region [oO 14 (.iaddr 4 (tT 10) (tT 12)),
 oO 15 (.load true 4 (tT 14)),oO 5 (.alloc [(.int .u8 0),(.int .i64 0),nS,nS]),⟨none,.store 4 (tT 5) (tT 15),none⟩]) (.draw [⟨0,oO 16 (.load true 1 (tT 3)),0,0,false⟩,⟨1,oO 17 (.load true 4 (tT 5)),0,0,
 false⟩,⟨2,oO 18 (kC 83 [(tT 17)]),2,0,false⟩,⟨3,oO 19 (kC 29 [(tT 16),(tT 18)]),7,1,false⟩,⟨4,⟨none,.store 1 (tT 3) (tT 19),none⟩,15,1,false⟩]))) (.region [oO 20 (.bin .add .num (tT 12) (kI 1)),oM 12 20]))))))) (sQ (.region [oO 21 (.load true 1 (tT 3)),
 ⟨none,.store 1 (tT 2) (tT 21),none⟩]) .ret))))
theorem ok83 : FnOk Tryz.prog 83 22 ir83 [.cell 2 true 1] := Z8 mixed Tryz.func83 (by kernel_rfl) Tryz.ntmps83 (by kernel_rfl) (by kernel_rfl)
def ir84 : ACode := (sQ (.region [oO 2 (.box (tT 0)),oO 3 (.mov kF)]) (sQ (.region [oO 4 (.load true 4 (tT 1)),oO 5 (.load true 1 (tT 2)),oO 6 (kC 85 [(tT 4),(tT 5)]),oO 7 (.bin .eql .num (tT 6) (kI 0)),
 oM 3 7]) .ret))
theorem ok84 : FnOk Tryz.prog 84 8 ir84 [.tmp 3] := Z8 mixed Tryz.func84 (by kernel_rfl) Tryz.ntmps84 (by kernel_rfl) (by kernel_rfl)
def ir85 : ACode := (sQ (.region [oO 2 (.box (tT 0)),oO 3 (.box (tT 1)),oO 4 (.mov (kI 0))]) (sQ (.region [oO 5 (.alloc [(.int .i64 0),(.int .i64 0)])]) (sQ (sQ (.region [oO 8 (.faddr 3 (tT 2)),oO 9 (.load false 1 (tT 8)),
 oO 10 (.len (tT 9)),oO 11 (.mov (kI 0))]) (.block 0 (.loop (sQ (.region [oO 12 (.bin .lss .num (tT 11) (tT 10))]) (sQ (.cond (tT 12) .skip (.exit 0)) (sQ (.block 1 (sQ (.region [oM 13 11,oO 14 (.iaddr 4 (tT 9) (tT 11)),
 oO 15 (.load true 4 (tT 14)),oO 7 (.alloc [(.int .u8 0),(.int .i64 0),nS,nS]),oM 6 13,⟨none,.store 4 (tT 7) (tT 15),none⟩]) (.region [oM 16 6,oO 17 (.load true 4 (tT 7)),oO 18 (.load true 1 (tT 3)),oO 19 (kC 85 [(tT 17),
 (tT 18)]),oO 20 (.iaddrA 2 1 (tT 5) (tT 16)),⟨none,.store 1 (tT 20) (tT 19),none⟩]))) (.region [oO 21 (.bin .add .num (tT 11) (kI 1)),oM 11 21]))))))) (sQ (sQ (.region [oO 22 (.faddr 0 (tT 2)),oO 23 (.load false 1 (tT 22))]) (.block 2 (sQ (.region [oO 25 (.bin .eql .num (tT 23) (.const (.int .u8 1))),
 oM 24 25]) (.cond (tT 24) (sQ (.region [oO 26 (.faddr 1 (tT 2)),oO 27 (.load false 1 (tT 26)),oM 4 27]) .ret) (sQ (.region [oO 29 (.bin .eql .num (tT 23) (.const (.int .u8 2))),oM 28 29]) (.cond (tT 28) (sQ (.region [oO 4 (.mov (kI 1))]) .ret) (sQ (sQ (.region [oO 31 (.bin .eql .num (tT 23) (.const (.int .u8 4))),
 oM 30 31]) (.cond (tT 30) .skip (.region [oO 32 (.bin .eql .num (tT 23) (.const (.int .u8 5))),oM 30 32]))) (.cond (tT 30) (sQ (.region [oO 33 (.faddr 2 (tT 2)),oO 34 (.load false 1 (tT 33)),oO 35 (.load true 1 (tT 3)),
 oO 36 (kC 123 [(tT 34),(tT 35)]),oM 4 36]) .ret) (sQ (.region [oO 38 (.bin .eql .num (tT 23) (.const (.int .u8 7))),oM 37 38]) (.cond (tT 37) (sQ (.region [oO 39 (.iaddrA 2 1 (tT 5) (kI 0)),oO 40 (.load false 1 (tT 39)),
 oO 41 (.bin .sub .num (kI 1) (tT 40)),oM 4 41]) .ret) (sQ (.region [oO 43 (.bin .eql .num (tT 23) (.const (.int .u8 8))),oM 42 43]) (.cond (tT 42) (sQ (.region [oO 44 (.iaddrA 2 1 (tT 5) (kI 0)),oO 45 (.load false 1 (tT 44)),
 oO 46 (.iaddrA 2 1 (tT 5) (kI 1)),oO 47 (.load false 1 (tT 46)),oO 48 (.bin .and .num (tT 45) (tT 47)),oM 4 48]) .ret) (sQ (.region [oO 50 (.bin .eql .num (tT 23) (.const (.int .u8 9))),oM 49 50]) (.cond (tT 49) (sQ (.region [oO 51 (.iaddrA 2 1 (tT 5) (kI 0)),
 oO 52 (.load false 1 (tT 51)),oO 53 (.iaddrA 2 1 (tT 5) (kI 1)),oO 54 (.load false 1 (tT 53)),oO 55 (.bin .or .num (tT 52) (tT 54)),oM 4 55]) .ret) (sQ (.region [oO 57 (.bin .eql .num (tT 23) (.const (.int .u8 10))),
 oM 56 57]) (.cond (tT 56) (sQ (.region [oO 58 (.iaddrA 2 1 (tT 5) (kI 0)),oO 59 (.load false 1 (tT 58)),oO 60 (.bin .sub .num (kI 1) (tT 59)),oO 61 (.iaddrA 2 1 (tT 5) (kI 1)),oO 62 (.load false 1 (tT 61)),
 oO 63 (.bin .or .num (tT 60) (tT 62)),oM 4 63]) .ret) (sQ (.region [oO 65 (.bin .eql .num (tT 23) (.const (.int .u8 11))),oM 64 65]) (.cond (tT 64) (sQ (.region [oO 66 (.iaddrA 2 1 (tT 5) (kI 0)),oO 67 (.load false 1 (tT 66)),
 oO 68 (.iaddrA 2 1 (tT 5) (kI 1)),oO 69 (.load false 1 (tT 68)),oO 70 (.bin .leq .num (tT 67) (tT 69)),oO 71 (kC 124 [(tT 70)]),oM 4 71]) .ret) (sQ (.region [oO 73 (.bin .eql .num (tT 23) (.const (.int .u8 12))),
 oM 72 73]) (.cond (tT 72) (sQ (.region [oO 74 (.iaddrA 2 1 (tT 5) (kI 0)),oO 75 (.load false 1 (tT 74)),oO 76 (.iaddrA 2 1 (tT 5) (kI 1)),oO 77 (.load false 1 (tT 76)),oO 78 (.bin .lss .num (tT 75) (tT 77)),
 oO 79 (kC 124 [(tT 78)]),oM 4 79]) .ret) (sQ (.region [oO 81 (.bin .eql .num (tT 23) (.const (.int .u8 13))),oM 80 81]) (.cond (tT 80) (sQ (.region [oO 82 (.iaddrA 2 1 (tT 5) (kI 0)),oO 83 (.load false 1 (tT 82)),
 oO 84 (.iaddrA 2 1 (tT 5) (kI 1)),oO 85 (.load false 1 (tT 84)),oO 86 (.bin .geq .num (tT 83) (tT 85)),oO 87 (kC 124 [(tT 86)]),oM 4 87]) .ret) (sQ (.region [oO 89 (.bin .eql .num (tT 23) (.const (.int .u8 14))),
 oM 88 89]) (.cond (tT 88) (sQ (.region [oO 90 (.iaddrA 2 1 (tT 5) (kI 0)),oO 91 (.load false 1 (tT 90)),oO 92 (.iaddrA 2 1 (tT 5) (kI 1)),oO 93 (.load false 1 (tT 92)),oO 94 (.bin .gtr .num (tT 91) (tT 93)),
 oO 95 (kC 124 [(tT 94)]),oM 4 95]) .ret) (sQ (.region [oO 97 (.bin .eql .num (tT 23) (.const (.int .u8 15))),oM 96 97]) (.cond (tT 96) (sQ (.region [oO 98 (.iaddrA 2 1 (tT 5) (kI 0)),oO 99 (.load false 1 (tT 98)),
 oO 100 (.iaddrA 2 1 (tT 5) (kI 1)),oO 101 (.load false 1 (tT 100)),oO 102 (.bin .eql .num (tT 99) (tT 101)),oO 103 (kC 124 [(tT 102)]),oM 4 103]) .ret) (sQ (.region [oO 105 (.bin .eql .num (tT 23) (.const (.int .u8 16))),
 oM 104 105]) (.cond (tT 104) (sQ (.region [oO 106 (.iaddrA 2 1 (tT 5) (kI 0)),oO 107 (.load false 1 (tT 106)),oO 108 (.iaddrA 2 1 (tT 5) (kI 1)),oO 109 (.load false 1 (tT 108)),oO 110 (.bin .add .num (tT 107) (tT 109)),
 oM 4 110]) .ret) .skip)))))))))))))))))))))))))))) (sQ (.region [oO 4 (.mov (kI 0))]) .ret)))))
theorem ok85 : FnOk Tryz.prog 85 111 ir85 [.tmp 4] := Z8 mixed Tryz.func85 (by kernel_rfl) Tryz.ntmps85 (by kernel_rfl) (by kernel_rfl)
set_option maxRecDepth 100000
def ir94 : ACode := (sQ (.region [oO 2 (.box (tT 0)),oO 4 (.mov (kI 0))]) (sQ (.region [oO 8 (.load true 4 (tT 2)),oO 9 (kC 129 [(tT 8)]),oM 7 9,oO 10 (.extract (tT 7) 0),oO 11 (.extract (tT 7) 1),oM 5 10,
 oM 6 11]) (sQ (sQ (.region [oM 12 5,oO 13 (.bin .gtr .num (tT 12) (kI 10)),oM 14 13,oF 14 15 (.mov (tT 6)),oF 14 16 (.bin .gtr .num (tT 15) (kI 200)),oO 17 (.pick (tT 14) kT (tT 16))]) (.cond (tT 17) (sQ (.region [oO 4 (.mov (kI 3))]) .ret) .skip)) (sQ (.region [oO 18 (.load true 4 (tT 2)),
 oM 19 1,oO 20 (kC 130 [(tT 18),(tT 19)]),oM 4 20]) .ret))))
theorem ok94 : FnOk Tryz.prog 94 21 ir94 [.tmp 4] := Z8 mixed Tryz.func94 (by kernel_rfl) Tryz.ntmps94 (by kernel_rfl) (by kernel_rfl)
def ir95 : ACode := (sQ (.region [oO 1 (.box (tT 0)),oO 2 (.mov kF)]) (sQ (.region [oO 3 (.mov (.const (.int .u8 1)))]) (sQ (sQ (.region [oO 6 (.faddr 0 (tT 1)),oO 7 (.load false 1 (tT 6)),oO 8 (.bin .geq .num (tT 7) (.const (.int .u8 11)))]) (.cond (tT 8) (.region [oO 3 (.mov (.const (.int .u8 2)))]) .skip)) (sQ (sQ (.region [oO 9 (.faddr 3 (tT 1)),
 oO 10 (.load false 1 (tT 9)),oO 11 (.len (tT 10)),oO 12 (.mov (kI 0))]) (.block 0 (.loop (sQ (.region [oO 13 (.bin .lss .num (tT 12) (tT 11))]) (sQ (.cond (tT 13) .skip (.exit 0)) (sQ (.block 1 (sQ (.region [oO 14 (.iaddr 4 (tT 10) (tT 12)),
 oO 15 (.load true 4 (tT 14)),oO 5 (.alloc [(.int .u8 0),(.int .i64 0),nS,nS]),⟨none,.store 4 (tT 5) (tT 15),none⟩]) (sQ (.region [oO 16 (.faddr 0 (tT 5)),oO 17 (.load false 1 (tT 16)),oO 18 (kC 96 [(tT 17)]),
 oM 19 3,oO 20 (.bin .neq .num (tT 18) (tT 19)),oM 21 20,oF 21 22 (.load true 4 (tT 5)),oF 21 23 (kC 95 [(tT 22)]),oF 21 24 (.una .not (tT 23)),oO 25 (.pick (tT 21) kT (tT 24))]) (.cond (tT 25) (sQ (.region [oO 2 (.mov kF)]) .ret) .skip)))) (.region [oO 26 (.bin .add .num (tT 12) (kI 1)),
 oM 12 26]))))))) (sQ (.region [oO 2 (.mov kT)]) .ret)))))
theorem ok95 : FnOk Tryz.prog 95 27 ir95 [.tmp 2] := Z8 mixed Tryz.func95 (by kernel_rfl) Tryz.ntmps95 (by kernel_rfl) (by kernel_rfl)
def ir96 : ACode := (sQ (.region [oO 2 (.mov (.const (.int .u8 0)))]) (sQ (sQ (.region [oM 3 0]) (.block 0 (sQ (sQ (.region [oO 5 (.bin .eql .num (tT 3) (.const (.int .u8 1))),oM 4 5]) (.cond (tT 4) .skip (sQ (.region [oO 6 (.bin .eql .num (tT 3) (.const (.int .u8 5))),
 oM 4 6]) (.cond (tT 4) .skip (sQ (.region [oO 7 (.bin .eql .num (tT 3) (.const (.int .u8 6))),oM 4 7]) (.cond (tT 4) .skip (.region [oO 8 (.bin .eql .num (tT 3) (.const (.int .u8 16))),oM 4 8]))))))) (.cond (tT 4) (sQ (.region [oO 2 (.mov (.const (.int .u8 2)))]) .ret) .skip)))) (sQ (.region [oO 2 (.mov (.const (.int .u8 1)))]) .ret)))
theorem ok96 : FnOk Tryz.prog 96 9 ir96 [.tmp 2] := Z8 mixed Tryz.func96 (by kernel_rfl) Tryz.ntmps96 (by kernel_rfl) (by kernel_rfl)
def ir97 : ACode := (sQ (.region [oO 4 (.mov (.const (.pointer none))),oO 5 (.mov (kI 0))]) (sQ (sQ (.region [oM 10 0,oO 11 (.bin .lss .num (tT 10) (kI 0)),oM 12 11,oF 12 13 (.mov (tT 0)),oF 12 14 (.bin .gtr .num (tT 13) (kI 256)),
 oO 15 (.pick (tT 12) kT (tT 14))]) (.cond (tT 15) (sQ (.region [oO 4 (.mov (.const (.pointer none))),oO 5 (.mov (kI 1))]) .ret) .skip)) (sQ (sQ (.region [oM 16 1,oO 17 (.len (tT 16)),oO 18 (.mov (kI 0))]) (.block 0 (.loop (sQ (.region [oO 19 (.bin .lss .num (tT 18) (tT 17))]) (sQ (.cond (tT 19) .skip (.exit 0)) (sQ (.block 1 (sQ (.region [oO 20 (.iaddr 2 (tT 16) (tT 18)),
 oO 21 (.load true 2 (tT 20)),oO 7 (.alloc [(.int .i64 0),(.int .i64 0)]),⟨none,.store 2 (tT 7) (tT 21),none⟩]) (sQ (.region [oO 22 (.iaddrA 2 1 (tT 7) (kI 0)),oO 23 (.load false 1 (tT 22)),oO 24 (.iaddrA 2 1 (tT 7) (kI 1)),
 oO 25 (.load false 1 (tT 24)),oO 26 (.mn (tT 23) (tT 25)),oO 27 (.bin .lss .num (tT 26) (kI 0)),oM 28 27,oF 28 29 (.iaddrA 2 1 (tT 7) (kI 0)),oF 28 30 (.load false 1 (tT 29)),oF 28 31 (.iaddrA 2 1 (tT 7) (kI 1)),
 oF 28 32 (.load false 1 (tT 31)),oF 28 33 (.mx (tT 30) (tT 32)),oF 28 34 (.mov (tT 0)),oF 28 35 (.bin .geq .num (tT 33) (tT 34)),oO 36 (.pick (tT 28) kT (tT 35))]) (.cond (tT 36) (sQ (.region [oO 4 (.mov (.const (.pointer none))),
 oO 5 (.mov (kI 2))]) .ret) .skip)))) (.region [oO 37 (.bin .add .num (tT 18) (kI 1)),oM 18 37]))))))) (sQ (.region [oO 38 (.bslice [(.int .i64 0),(.int .i64 0)] 0 []),oM 39 1,oO 40 (.append [(.int .i64 0),
 (.int .i64 0)] 16 (tT 38) (tT 39)),oM 8 40]) (sQ (.region [oM 41 8,oO 42 (kC 131 [(tT 41),(.func 132)])]) (sQ (.region [oM 43 0,oM 44 8,oO 45 (kC 134 [(tT 44)]),oO 46 (kC 133 [(tT 45)]),oO 47 (.build [(.int .i64 0),
 nS,nS,nS,nS] [(0,1,(tT 43)),(1,1,(tT 46))]),oO 48 (.box (tT 47)),oM 9 48]) (sQ (sQ (.region [oM 49 9,oO 50 (kC 135 [(tT 49)]),oO 51 (.una .not (tT 50))]) (.cond (tT 51) (sQ (.region [oO 4 (.mov (.const (.pointer none))),
 oO 5 (.mov (kI 16))]) .ret) .skip)) (sQ (.region [oM 52 9,oO 53 (kC 136 [(tT 52)])]) (sQ (.region [oM 54 9,oM 4 54,oO 5 (.mov (kI 0))]) .ret)))))))))
theorem ok97 : FnOk Tryz.prog 97 55 ir97 [.tmp 4, .tmp 5] := Z8 mixed Tryz.func97 (by kernel_rfl) Tryz.ntmps97 (by kernel_rfl) (by kernel_rfl)
def ir99 : ACode := (sQ (.region [oO 6 (.box (tT 2)),oO 7 (.box (tT 3)),oO 8 (.mov (.const nS))]) (sQ (sQ (.region [oO 13 (.load true 1 (tT 6)),oO 14 (kC 22 [(tT 13)])]) (.cond (tT 14) (sQ (.region [oM 15 0,
 oM 8 15]) .ret) .skip)) (sQ (.region [oO 9 (.alloc [nS])]) (sQ (sQ (.region [oO 16 (.load true 1 (tT 6)),oO 17 (kC 26 [(tT 16)])]) (.block 0 (.range (tT 17) [18] [(10,(tT 18))] (.block 1 (sQ (.region [oO 20 (.load false 1 (tT 7)),
 oM 21 10,oO 22 (kC 139 [(tT 20),(tT 21)]),oM 19 22,oO 23 (.extract (tT 19) 0),oO 24 (.extract (tT 19) 1),oM 11 23,oM 12 24]) (sQ (sQ (.region [oM 25 12,oO 26 (.una .not (tT 25))]) (.cond (tT 26) (.region [oM 27 10,
 oO 28 (kC 104 [(tT 27)]),oM 11 28]) .skip)) (.region [oO 29 (.load false 1 (tT 9)),oM 30 11,⟨(some 31),.bslice [(.string ⟨#[]⟩)] 1 [(0,(tT 30))],none⟩,⟨(some 32),.append [(.string ⟨#[]⟩)] 16 (tT 29) (tT 31),
 none⟩,⟨none,.store 1 (tT 9) (tT 32),none⟩]))))))) (sQ (.region [oM 33 0,oM 34 1,oO 35 (.load false 1 (tT 9)),⟨(some 36),kC 100 [(tT 35),(.const (.string ⟨#[32,97,110,100,32]⟩))],none⟩,oO 37 (.bin .add .num (tT 34) (tT 36)),
 ⟨(some 38),.bslice [(.string ⟨#[]⟩)] 1 [(0,(tT 37))],none⟩,⟨(some 39),.append [(.string ⟨#[]⟩)] 16 (tT 33) (tT 38),none⟩,oM 8 39]) .ret)))))
theorem ok99 : FnOk Tryz.prog 99 40 ir99 [.tmp 8] := Z8 mixed Tryz.func99 (by kernel_rfl) Tryz.ntmps99 (by kernel_rfl) (by kernel_rfl)
def ir102 : ACode := (sQ (.region [oO 2 (.mov kF)]) (sQ (.region [oM 3 0,oO 4 (.bin .geq .num (tT 3) (kI 1)),oM 5 4,oT 5 6 (.mov (tT 0)),oT 5 7 (.bin .leq .num (tT 6) (kI 63)),oO 8 (.pick (tT 5) (tT 7) kF),
 oM 2 8]) .ret))
theorem ok102 : FnOk Tryz.prog 102 9 ir102 [.tmp 2] := Z8 mixed Tryz.func102 (by kernel_rfl) Tryz.ntmps102 (by kernel_rfl) (by kernel_rfl)
def ir103 : ACode := (sQ (.region [oO 6 (.mov (.const (.pointer none))),oO 7 (.mov (kI 0))]) (sQ (sQ (.region [oM 8 0,oO 9 (.bin .eql .ptr (tT 8) (.const (.pointer none)))]) (.cond (tT 9) (sQ (.region [oO 6 (.mov (.const (.pointer none))),
 oO 7 (.mov (kI 1))]) .ret) .skip)) (sQ (sQ (.region [oM 10 0,oM 11 1,oO 12 (kC 142 [(tT 10),(tT 11)]),oO 13 (.una .not (tT 12)),oM 14 13,oF 14 15 (.mov (tT 0)),oF 14 16 (.mov (tT 2)),oF 14 17 (kC 142 [(tT 15),
 (tT 16)]),oF 14 18 (.una .not (tT 17)),oO 19 (.pick (tT 14) kT (tT 18))]) (.cond (tT 19) (sQ (.region [oO 6 (.mov (.const (.pointer none))),oO 7 (.mov (kI 2))]) .ret) .skip)) (sQ (sQ (.region [oM 20 0,
 oO 21 (.nilck (tT 20)),oO 22 (.faddr 1 (tT 21)),oO 23 (.load false 1 (tT 22)),oM 24 1,oM 25 2,oO 26 (.build [(.int .i64 0),(.int .i64 0)] [(0,1,(tT 24)),(1,1,(tT 25))]),oO 27 (kC 143 [(tT 23),(tT 26)])]) (.cond (tT 27) (sQ (.region [oO 6 (.mov (.const (.pointer none))),
 oO 7 (.mov (kI 5))]) .ret) .skip)) (sQ (.draw [⟨0,oM 28 0,0,0,false⟩,⟨1,oO 29 (.nilck (tT 28)),1,0,false⟩,⟨2,oO 30 (.faddr 0 (tT 29)),3,0,false⟩,⟨3,oO 31 (.load false 1 (tT 30)),7,0,false⟩,⟨4,oM 32 0,0,
 0,false⟩,⟨5,oO 33 (kC 144 [(tT 32)]),16,0,false⟩,⟨6,oM 34 1,0,0,false⟩,⟨7,oM 35 2,0,0,false⟩,⟨8,oO 36 (.build [(.int .i64 0),(.int .i64 0)] [(0,1,(tT 34)),(1,1,(tT 35))]),192,0,false⟩,⟨9,oO 37 (.bslice [(.int .i64 0),
 (.int .i64 0)] 1 [(0,(tT 36))]),448,0,false⟩,⟨10,oO 38 (.append [(.int .i64 0),(.int .i64 0)] 16 (tT 33) (tT 37)),1008,2016,false⟩,⟨11,oO 39 (kC 97 [(tT 31),(tT 38)]),2047,1,false⟩,⟨12,oO 40 (.extract (tT 39) 0),
 4095,1,false⟩,⟨13,oO 41 (.extract (tT 39) 1),4095,1,false⟩,⟨14,oM 6 40,16383,1,false⟩,⟨15,oM 7 41,32767,1,false⟩]) .ret)))))
theorem ok103 : FnOk Tryz.prog 103 42 ir103 [.tmp 6, .tmp 7] := Z8 mixed Tryz.func103 (by kernel_rfl) Tryz.ntmps103 (by kernel_rfl) (by kernel_rfl)
def ir109 : ACode := (sQ (.region [oO 8 (.alloc [(.int .i64 0),(.int .i64 0),nS,nS])]) (sQ (.region [oM 12 0,oO 13 (kC 147 [(tT 12)]),oM 9 13]) (sQ (sQ (.region [oM 14 1,oO 15 (.bin .leq .num (tT 14) (kI 1)),
 oM 16 15,oF 16 17 (.mov (tT 9)),oF 16 18 (.bin .rem .num (tT 17) (kI 8)),oF 16 19 (.bin .leq .num (tT 18) (kI 1)),oO 20 (.pick (tT 16) kT (tT 19))]) (.cond (tT 20) (sQ (.block 0 (sQ (.region [oM 22 2,oO 23 (.bin .eql .num (tT 22) (kI 3)),
 oM 24 23,oT 24 25 (.mov (tT 1)),oT 24 26 (.bin .gtr .num (tT 25) (kI 1)),oO 27 (.pick (tT 24) (tT 26) kF),oM 21 27]) (.cond (tT 21) (sQ (.region [oM 28 0,oM 29 9,oO 30 (.bin .quo .num (tT 29) (kI 8)),oM 31 1,
 oM 32 2,oM 33 3,oO 34 (kC 148 [(tT 28),(tT 30),(tT 31),(tT 32),(tT 33)]),⟨none,.store 4 (tT 8) (tT 34),none⟩]) .ret) (sQ (.region [oM 36 2,oO 37 (.bin .eql .num (tT 36) (kI 3)),oM 38 37,oF 38 39 (.mov (tT 9)),
 oF 38 40 (.bin .rem .num (tT 39) (kI 16)),oF 38 41 (.bin .eql .num (tT 40) (kI 9)),oO 42 (.pick (tT 38) kT (tT 41)),oM 35 42]) (.cond (tT 35) (sQ (.region [oM 43 9,oO 44 (.bin .quo .num (tT 43) (kI 16)),
 oO 45 (.bin .rem .num (tT 44) (kI 2)),oO 46 (.bin .add .num (kI 2) (tT 45)),oO 47 (.build [(.int .i64 0),(.int .i64 0),nS,nS] [(0,1,(tT 46))]),⟨none,.store 4 (tT 8) (tT 47),none⟩]) .ret) .skip))))) (sQ (.region [oM 48 9,
 oO 49 (.bin .quo .num (tT 48) (kI 8)),oM 50 3,oO 51 (.bin .rem .num (tT 49) (tT 50)),oO 52 (.bin .add .num (kI 1) (tT 51)),oO 53 (.bslice [(.int .i64 0)] 1 [(0,(tT 52))]),oO 54 (.build [(.int .i64 0),(.int .i64 0),
 nS,nS] [(0,1,(kI 4)),(2,1,(tT 53))]),⟨none,.store 4 (tT 8) (tT 54),none⟩]) .ret)) .skip)) (sQ (sQ (.region [oM 55 9,oO 56 (.bin .rem .num (tT 55) (kI 8)),oO 57 (.bin .geq .num (tT 56) (kI 6))]) (.cond (tT 57) (sQ (.region [oM 58 0,
 oM 59 9,oO 60 (.bin .quo .num (tT 59) (kI 8)),oM 61 1,oM 62 2,oM 63 3,oO 64 (kC 148 [(tT 58),(tT 60),(tT 61),(tT 62),(tT 63)]),⟨none,.store 4 (tT 8) (tT 64),none⟩]) .ret) .skip)) (sQ (.region [oM 65 0,
 oM 66 1,oO 67 (.bin .sub .num (tT 66) (kI 1)),oM 68 2,oM 69 3,oO 70 (kC 109 [(tT 65),(tT 67),(tT 68),(tT 69)]),oO 10 (.alloc [(.int .i64 0),(.int .i64 0),nS,nS]),⟨none,.store 4 (tT 10) (tT 70),none⟩]) (sQ (sQ (.region [oM 71 9,
 oO 72 (.bin .rem .num (tT 71) (kI 8)),oO 73 (.bin .eql .num (tT 72) (kI 2))]) (.cond (tT 73) (sQ (.region [oO 74 (.load true 4 (tT 10)),oO 75 (.bslice [(.int .i64 0),(.int .i64 0),nS,nS] 1 [(0,(tT 74))]),
 oO 76 (.build [(.int .i64 0),(.int .i64 0),nS,nS] [(0,1,(kI 7)),(3,1,(tT 75))]),⟨none,.store 4 (tT 8) (tT 76),none⟩]) .ret) .skip)) (sQ (.region [oM 77 0,oM 78 1,oO 79 (.bin .sub .num (tT 78) (kI 1)),oM 80 2,
 oM 81 3,oO 82 (kC 109 [(tT 77),(tT 79),(tT 80),(tT 81)]),oO 11 (.alloc [(.int .i64 0),(.int .i64 0),nS,nS]),⟨none,.store 4 (tT 11) (tT 82),none⟩]) (sQ (.region [oM 83 9,oO 84 (.bin .rem .num (tT 83) (kI 8)),
 oO 85 (.bin .add .num (kI 8) (tT 84)),oO 86 (.bin .sub .num (tT 85) (kI 3)),oO 87 (.load true 4 (tT 10)),oO 88 (.load true 4 (tT 11)),oO 89 (.bslice [(.int .i64 0),(.int .i64 0),nS,nS] 2 [(0,(tT 87)),(1,
 (tT 88))]),oO 90 (.build [(.int .i64 0),(.int .i64 0),nS,nS] [(0,1,(tT 86)),(3,1,(tT 89))]),⟨none,.store 4 (tT 8) (tT 90),none⟩]) .ret))))))))
theorem ok109 : FnOk Tryz.prog 109 91 ir109 [.cell 8 true 4] := Z8 mixed Tryz.func109 (by kernel_rfl) Tryz.ntmps109 (by kernel_rfl) (by kernel_rfl)
def ir110 : ACode := (sQ (.region [oO 6 (.mov (.const nS)),oO 7 (.mov (kI 0))]) (sQ (sQ (.region [oM 9 1,oO 10 (kC 149 [(tT 9)]),oO 11 (.una .not (tT 10)),oM 12 11,oF 12 13 (.mov (tT 2)),oF 12 14 (kC 149 [(tT 13)]),
 oF 12 15 (.una .not (tT 14)),oO 16 (.pick (tT 12) kT (tT 15)),oM 17 16,oF 17 18 (.mov (tT 1)),oF 17 19 (.mov (tT 2)),oF 17 20 (.bin .eql .num (tT 18) (tT 19)),oO 21 (.pick (tT 17) kT (tT 20))]) (.cond (tT 21) (sQ (.region [oM 22 0,
 oM 6 22,oO 7 (.mov (kI 1))]) .ret) .skip)) (sQ (sQ (.region [oM 23 0,oM 24 1,oM 25 2,oO 26 (kC 150 [(tT 23),(tT 24),(tT 25)])]) (.cond (tT 26) (sQ (.region [oM 27 0,oM 6 27,oO 7 (.mov (kI 5))]) .ret) .skip)) (sQ (sQ (.region [oM 28 0,
 oM 29 2,oM 30 1,oO 31 (kC 151 [(tT 28),(tT 29),(tT 30)])]) (.cond (tT 31) (sQ (.region [oM 32 0,oM 6 32,oO 7 (.mov (kI 16))]) .ret) .skip)) (sQ (.region [oO 8 (.mov (kI 0))]) (sQ (.block 0 (.loop (sQ (sQ (.region [oM 33 8,
 oM 34 0,oO 35 (.len (tT 34)),oO 36 (.bin .lss .num (tT 33) (tT 35)),oM 37 36,oT 37 38 (.mov (tT 0)),oT 37 39 (.mov (tT 8)),oT 37 40 (.iaddr 2 (tT 38) (tT 39)),oT 37 41 (.iaddrA 2 1 (tT 40) (kI 0)),oT 37 42 (.load false 1 (tT 41)),
 oT 37 43 (.mov (tT 1)),oT 37 44 (.bin .lss .num (tT 42) (tT 43)),oT 37 45 (.mov (tT 44)),oF 45 46 (.mov (tT 0)),oF 45 47 (.mov (tT 8)),oF 45 48 (.iaddr 2 (tT 46) (tT 47)),oF 45 49 (.iaddrA 2 1 (tT 48) (kI 0)),
 oF 45 50 (.load false 1 (tT 49)),oF 45 51 (.mov (tT 1)),oF 45 52 (.bin .eql .num (tT 50) (tT 51)),oF 45 53 (.mov (tT 52)),oT 53 54 (.mov (tT 0)),oT 53 55 (.mov (tT 8)),oT 53 56 (.iaddr 2 (tT 54) (tT 55)),
 oT 53 57 (.iaddrA 2 1 (tT 56) (kI 1)),oT 53 58 (.load false 1 (tT 57)),oT 53 59 (.mov (tT 2)),oT 53 60 (.bin .lss .num (tT 58) (tT 59)),oF 45 61 (.pick (tT 53) (tT 60) kF),oT 37 62 (.pick (tT 45) kT (tT 61)),
 oO 63 (.pick (tT 37) (tT 62) kF)]) (.cond (tT 63) .skip (.exit 0))) (.block 1 (.region [oM 64 8,oO 65 (.bin .add .num (tT 64) (kI 1)),oM 8 65]))))) (sQ (.draw [⟨0,oO 66 (.bslice [(.int .i64 0),(.int .i64 0)] 0 []),
 0,0,false⟩,⟨1,oM 67 0,0,0,false⟩,⟨2,oM 68 8,0,0,false⟩,⟨3,oO 69 (.slc 2 (tT 67) none (some (tT 68)) none),6,0,false⟩,⟨4,oO 70 (.append [(.int .i64 0),(.int .i64 0)] 16 (tT 66) (tT 69)),15,30,false⟩,⟨5,
 oM 71 1,0,0,false⟩,⟨6,oM 72 2,0,0,false⟩,⟨7,oO 73 (.build [(.int .i64 0),(.int .i64 0)] [(0,1,(tT 71)),(1,1,(tT 72))]),96,0,false⟩,⟨8,oO 74 (.bslice [(.int .i64 0),(.int .i64 0)] 1 [(0,(tT 73))]),224,0,
 false⟩,⟨9,oO 75 (.append [(.int .i64 0),(.int .i64 0)] 16 (tT 70) (tT 74)),511,1022,false⟩,⟨10,oM 76 0,0,0,false⟩,⟨11,oM 77 8,0,0,false⟩,⟨12,oO 78 (.slc 2 (tT 76) (some (tT 77)) none none),3072,0,false⟩,
 ⟨13,oO 79 (.append [(.int .i64 0),(.int .i64 0)] 16 (tT 75) (tT 78)),8191,1,false⟩,⟨14,oM 6 79,16383,1,false⟩,⟨15,oO 7 (.mov (kI 0)),32767,1,false⟩]) .ret)))))))
theorem ok110 : FnOk Tryz.prog 110 80 ir110 [.tmp 6, .tmp 7] := Z8 mixed Tryz.func110 (by kernel_rfl) Tryz.ntmps110 (by kernel_rfl) (by kernel_rfl)
def ir111 : ACode := (sQ (.region [oO 2 (.mov (kI 0))]) (sQ (sQ (.region [oM 3 0]) (.cond (tT 3) (sQ (.region [oO 2 (.mov (kI 1))]) .ret) .skip)) (sQ (.region [oO 2 (.mov (kI 0))]) .ret)))
theorem ok111 : FnOk Tryz.prog 111 4 ir111 [.tmp 2] := Z8 mixed Tryz.func111 (by kernel_rfl) Tryz.ntmps111 (by kernel_rfl) (by kernel_rfl)
def ir112 : ACode := (sQ (.region [oO 2 (.box (tT 0)),oO 4 (.mov (kI 0))]) (sQ (sQ (.region [oM 5 1,oO 6 (.bin .lss .num (tT 5) (kI 0)),oM 7 6,oF 7 8 (.mov (tT 1)),oF 7 9 (.faddr 1 (tT 2)),oF 7 10 (.load false 1 (tT 9)),
 oF 7 11 (.len (tT 10)),oF 7 12 (.bin .geq .num (tT 8) (tT 11)),oO 13 (.pick (tT 7) kT (tT 12)),oM 14 13,oF 14 15 (.faddr 1 (tT 2)),oF 14 16 (.load false 1 (tT 15)),oF 14 17 (.mov (tT 1)),oF 14 18 (.iaddr 1 (tT 16) (tT 17)),
 oF 14 19 (.load false 1 (tT 18)),oF 14 20 (.bin .lss .num (tT 19) (kI 0)),oO 21 (.pick (tT 14) kT (tT 20)),oM 22 21,oF 22 23 (.faddr 1 (tT 2)),oF 22 24 (.load false 1 (tT 23)),oF 22 25 (.mov (tT 1)),oF 22 26 (.iaddr 1 (tT 24) (tT 25)),
 oF 22 27 (.load false 1 (tT 26)),oF 22 28 (.bin .gtr .num (tT 27) (kI 256)),oO 29 (.pick (tT 22) kT (tT 28))]) (.cond (tT 29) (sQ (.region [oO 4 (.mov (kI 0))]) .ret) .skip)) (sQ (.region [oO 30 (.faddr 1 (tT 2)),
 oO 31 (.load false 1 (tT 30)),oM 32 1,oO 33 (.iaddr 1 (tT 31) (tT 32)),oO 34 (.load false 1 (tT 33)),oM 4 34]) .ret)))
theorem ok112 : FnOk Tryz.prog 112 35 ir112 [.tmp 4] := Z8 mixed Tryz.func112 (by kernel_rfl) Tryz.ntmps112 (by kernel_rfl) (by kernel_rfl)
def ir113 : ACode := (sQ (.region [oO 4 (.alloc [nS])]) (sQ (sQ (.region [oM 5 0,oM 6 1,oO 7 (kC 142 [(tT 5),(tT 6)]),oO 8 (.una .not (tT 7))]) (.cond (tT 8) (sQ (.region [oO 9 (.build [nS] []),⟨none,.store 1 (tT 4) (tT 9),
 none⟩]) .ret) .skip)) (sQ (.region [oM 10 0,oO 11 (.nilck (tT 10)),oO 12 (.faddr 3 (tT 11)),oO 13 (.load false 1 (tT 12)),oM 14 1,oO 15 (.iaddr 1 (tT 13) (tT 14)),oO 16 (.load true 1 (tT 15)),⟨none,.store 1 (tT 4) (tT 16),
 none⟩]) .ret)))
theorem ok113 : FnOk Tryz.prog 113 17 ir113 [.cell 4 true 1] := Z8 mixed Tryz.func113 (by kernel_rfl) Tryz.ntmps113 (by kernel_rfl) (by kernel_rfl)
def ir114 : ACode := (sQ (.region [oO 2 (.box (tT 0)),oO 4 (.alloc [nS])]) (sQ (sQ (.region [oM 6 1,oO 7 (.bin .lss .num (tT 6) (kI 0)),oM 8 7,oF 8 9 (.mov (tT 1)),oF 8 10 (.bin .gtr .num (tT 9) (kI 4095)),
 oO 11 (.pick (tT 8) kT (tT 10)),oM 12 11,oF 12 13 (.load true 1 (tT 2)),oF 12 14 (.mov (tT 1)),oF 12 15 (kC 72 [(tT 13),(tT 14)]),oO 16 (.pick (tT 12) kT (tT 15))]) (.cond (tT 16) (sQ (.region [oO 17 (.load true 1 (tT 2)),
 ⟨none,.store 1 (tT 4) (tT 17),none⟩]) .ret) .skip)) (sQ (.region [oO 18 (.faddr 0 (tT 2)),oO 19 (.load false 1 (tT 18)),oO 20 (.len (tT 19)),oM 21 1,oO 22 (.bin .quo .num (tT 21) (kI 64)),oO 23 (.bin .add .num (tT 22) (kI 1)),
 oO 24 (.mx (tT 20) (tT 23)),oO 25 (.mslice [(.int .u64 0)] 8 (tT 24) (tT 24)),oM 5 25]) (sQ (.region [oM 26 5,oO 27 (.faddr 0 (tT 2)),oO 28 (.load false 1 (tT 27)),oO 29 (.copy 1 (tT 26) (tT 28))]) (sQ (.draw [⟨0,
 oM 30 5,0,1,false⟩,⟨1,oM 31 1,0,1,false⟩,⟨2,oO 32 (.bin .quo .num (tT 31) (kI 64)),2,1,false⟩,⟨3,oO 33 (.iaddr 1 (tT 30) (tT 32)),7,1,false⟩,⟨4,oO 34 (.load false 1 (tT 33)),15,1,false⟩,⟨5,oM 35 1,0,0,
 false⟩,⟨6,oO 36 (.bin .rem .num (tT 35) (kI 64)),32,0,false⟩,⟨7,oO 37 (.bin .shl .num (.const (.int .u64 1)) (tT 36)),96,0,false⟩,⟨8,oO 38 (.bin .or .num (tT 34) (tT 37)),255,1,false⟩,⟨9,oO 39 (.iaddr 1 (tT 30) (tT 32)),
 511,1,false⟩,⟨10,⟨none,.store 1 (tT 39) (tT 38),none⟩,1023,1,false⟩]) (sQ (.region [oM 40 5,oO 41 (.build [nS] [(0,1,(tT 40))]),⟨none,.store 1 (tT 4) (tT 41),none⟩]) .ret))))))
theorem ok114 : FnOk Tryz.prog 114 42 ir114 [.cell 4 true 1] := Z8 mixed Tryz.func114 (by kernel_rfl) Tryz.ntmps114 (by kernel_rfl) (by kernel_rfl)
def ir116 : ACode := (sQ (.region [oO 2 (.box (tT 0)),oO 3 (.box (tT 1)),oO 4 (.mov (kI 0))]) (sQ (sQ (.region [oO 8 (.faddr 0 (tT 2)),oO 9 (.load false 1 (tT 8)),oO 10 (.len (tT 9)),oO 11 (.faddr 0 (tT 3)),
 oO 12 (.load false 1 (tT 11)),oO 13 (.len (tT 12)),oO 14 (.mx (tT 10) (tT 13)),oO 15 (.mov (kI 0))]) (.block 0 (.loop (sQ (.region [oO 16 (.bin .lss .num (tT 15) (tT 14))]) (sQ (.cond (tT 16) .skip (.exit 0)) (sQ (.block 1 (sQ (.region [oM 17 15,
 oM 5 17]) (sQ (.draw [⟨0,oO 18 (.load true 1 (tT 2)),0,0,false⟩,⟨1,oM 19 5,0,0,false⟩,⟨2,oO 20 (kC 67 [(tT 18),(tT 19)]),3,0,false⟩,⟨3,oO 21 (.load true 1 (tT 3)),0,0,false⟩,⟨4,oM 22 5,0,0,false⟩,⟨5,oO 23 (kC 67 [(tT 21),
 (tT 22)]),31,1,false⟩,⟨6,oO 24 (.bin .xor .num (tT 20) (tT 23)),63,1,false⟩,⟨7,oM 6 24,127,1,false⟩]) (sQ (sQ (.region [oM 25 6,oO 26 (.bin .eql .num (tT 25) (.const (.int .u64 0)))]) (.cond (tT 26) (.exit 1) .skip)) (sQ (.region [oM 27 5,
 oO 28 (.bin .mul .num (kI 64) (tT 27)),oM 29 6,oO 30 (kC 71 [(tT 29)]),oO 31 (.bin .add .num (tT 28) (tT 30)),oM 7 31]) (sQ (sQ (.draw [⟨0,oO 32 (.load true 1 (tT 2)),0,0,false⟩,⟨1,oM 33 7,0,0,false⟩,⟨2,
 oO 34 (kC 72 [(tT 32),(tT 33)]),3,0,false⟩,⟨3,oO 35 (.load true 1 (tT 3)),0,0,false⟩,⟨4,oM 36 7,0,0,false⟩,⟨5,oO 37 (kC 72 [(tT 35),(tT 36)]),31,1,false⟩,⟨6,oO 38 (.bin .eql .bool (tT 34) (tT 37)),63,1,
 false⟩]) (.cond (tT 38) (sQ (.region [oO 4 (.mov (kI 0))]) .ret) .skip)) (sQ (sQ (.region [oO 39 (.load true 1 (tT 2)),oM 40 7,oO 41 (kC 72 [(tT 39),(tT 40)]),oM 42 41,oT 42 43 (.load true 1 (tT 3)),oT 42 44 (.mov (tT 7)),
 oT 42 45 (kC 154 [(tT 43),(tT 44)]),oO 46 (.pick (tT 42) (tT 45) kF),oM 47 46,oF 47 48 (.load true 1 (tT 3)),oF 47 49 (.mov (tT 7)),oF 47 50 (kC 72 [(tT 48),(tT 49)]),oF 47 51 (.mov (tT 50)),oT 51 52 (.load true 1 (tT 2)),
 oT 51 53 (.mov (tT 7)),oT 51 54 (kC 154 [(tT 52),(tT 53)]),oT 51 55 (.una .not (tT 54)),oF 47 56 (.pick (tT 51) (tT 55) kF),oO 57 (.pick (tT 47) kT (tT 56))]) (.cond (tT 57) (sQ (.region [oO 4 (.mov (.const (.int .i64 (-1))))]) .ret) .skip)) (sQ (.region [oO 4 (.mov (kI 1))]) .ret)))))))) (.region [oO 58 (.bin .add .num (tT 15) (kI 1)),
 oM 15 58]))))))) (sQ (.region [oO 4 (.mov (kI 0))]) .ret)))
theorem ok116 : FnOk Tryz.prog 116 59 ir116 [.tmp 4] := Z8 mixed Tryz.func116 (by kernel_rfl) Tryz.ntmps116 (by kernel_rfl) (by kernel_rfl)
def ir117 : ACode := (sQ (.region [oO 4 (.mov (kI 0))]) (sQ (sQ (.region [oO 5 (.mov (kI 0))]) (.block 0 (.loop (sQ (sQ (.region [oM 6 5,oM 7 0,oO 8 (.len (tT 7)),oO 9 (.bin .lss .num (tT 6) (tT 8)),oM 10 9,
 oT 10 11 (.mov (tT 5)),oT 10 12 (.mov (tT 1)),oT 10 13 (.len (tT 12)),oT 10 14 (.bin .lss .num (tT 11) (tT 13)),oO 15 (.pick (tT 10) (tT 14) kF)]) (.cond (tT 15) .skip (.exit 0))) (sQ (.block 1 (sQ (sQ (.draw [⟨0,
 oM 18 0,0,0,false⟩,⟨1,oM 19 5,0,0,false⟩,⟨2,oO 20 (.iaddr 1 (tT 18) (tT 19)),3,0,false⟩,⟨3,oO 21 (.load false 1 (tT 20)),7,0,false⟩,⟨4,oM 22 1,0,0,false⟩,⟨5,oM 23 5,0,0,false⟩,⟨6,oO 24 (.iaddr 1 (tT 22) (tT 23)),
 48,0,false⟩,⟨7,oO 25 (.load false 1 (tT 24)),112,0,false⟩,⟨8,oO 26 (.bin .lss .num (tT 21) (tT 25)),255,1,false⟩]) (.cond (tT 26) (sQ (.region [oO 4 (.mov (.const (.int .i64 (-1))))]) .ret) .skip)) (sQ (.draw [⟨0,
 oM 27 0,0,0,false⟩,⟨1,oM 28 5,0,0,false⟩,⟨2,oO 29 (.iaddr 1 (tT 27) (tT 28)),3,0,false⟩,⟨3,oO 30 (.load false 1 (tT 29)),7,0,false⟩,⟨4,oM 31 1,0,0,false⟩,⟨5,oM 32 5,0,0,false⟩,⟨6,oO 33 (.iaddr 1 (tT 31) (tT 32)),
 48,0,false⟩,⟨7,oO 34 (.load false 1 (tT 33)),112,0,false⟩,⟨8,oO 35 (.bin .gtr .num (tT 30) (tT 34)),255,1,false⟩]) (.cond (tT 35) (sQ (.region [oO 4 (.mov (kI 1))]) .ret) .skip)))) (.region [oM 16 5,oO 17 (.bin .add .num (tT 16) (kI 1)),
 oM 5 17])))))) (sQ (sQ (.region [oM 36 0,oO 37 (.len (tT 36)),oM 38 1,oO 39 (.len (tT 38)),oO 40 (.bin .lss .num (tT 37) (tT 39))]) (.cond (tT 40) (sQ (.region [oO 4 (.mov (.const (.int .i64 (-1))))]) .ret) .skip)) (sQ (sQ (.region [oM 41 0,
 oO 42 (.len (tT 41)),oM 43 1,oO 44 (.len (tT 43)),oO 45 (.bin .gtr .num (tT 42) (tT 44))]) (.cond (tT 45) (sQ (.region [oO 4 (.mov (kI 1))]) .ret) .skip)) (sQ (.region [oO 4 (.mov (kI 0))]) .ret)))))
theorem ok117 : FnOk Tryz.prog 117 46 ir117 [.tmp 4] := Z8 mixed Tryz.func117 (by kernel_rfl) Tryz.ntmps117 (by kernel_rfl) (by kernel_rfl)
def ir118 : ACode := (sQ (.region [oO 3 (.box (tT 0)),oO 6 (.mov kF)]) (sQ (.draw [⟨0,oO 7 (.load true 4 (tT 3)),0,1,false⟩,⟨1,oM 8 1,0,0,false⟩,⟨2,oM 9 2,0,0,false⟩,⟨3,oO 10 (kC 155 [(tT 8),(tT 9)]),6,
 0,false⟩,⟨4,oO 11 (kC 127 [(tT 7),(tT 10)]),15,1,false⟩,⟨5,oO 12 (.bin .neq .num (tT 11) (kI 1)),31,1,false⟩,⟨6,oM 6 12,63,1,false⟩]) .ret))
theorem ok118 : FnOk Tryz.prog 118 13 ir118 [.tmp 6] := Z8 mixed Tryz.func118 (by kernel_rfl) Tryz.ntmps118 (by kernel_rfl) (by kernel_rfl)
def ir119 : ACode := (sQ (.region [oO 6 (.mov kF)]) (sQ (sQ (.region [oM 9 0,oM 10 1,oM 11 2,oO 12 (kC 156 [(tT 9),(tT 10),(tT 11)]),oO 13 (.una .not (tT 12))]) (.cond (tT 13) (sQ (.region [oO 6 (.mov kF)]) .ret) .skip)) (sQ (sQ (.region [oM 14 0,
 oO 15 (.nilck (tT 14)),oO 16 (.faddr 0 (tT 15)),oO 17 (.load false 1 (tT 16)),oO 18 (.len (tT 17)),oO 19 (.mov (kI 0))]) (.block 0 (.loop (sQ (.region [oO 20 (.bin .lss .num (tT 19) (tT 18))]) (sQ (.cond (tT 20) .skip (.exit 0)) (sQ (.block 1 (sQ (.region [oM 21 19,
 oM 7 21]) (sQ (.region [oM 22 7,oO 23 (.bin .shl .num (kI 1) (tT 22)),oM 8 23]) (sQ (.region [oM 24 1,oM 25 8,oO 26 (.bin .and .num (tT 24) (tT 25)),oO 27 (.bin .neq .num (tT 26) (kI 0)),oM 28 27,oT 28 29 (.mov (tT 0)),
 oT 28 30 (.mov (tT 1)),oT 28 31 (.mov (tT 8)),oT 28 32 (.bin .sub .num (tT 30) (tT 31)),oT 28 33 (.mov (tT 2)),oT 28 34 (kC 156 [(tT 29),(tT 32),(tT 33)]),oO 35 (.pick (tT 28) (tT 34) kF),oM 36 35,oF 36 37 (.mov (tT 2)),
 oF 36 38 (.mov (tT 8)),oF 36 39 (.bin .and .num (tT 37) (tT 38)),oF 36 40 (.bin .neq .num (tT 39) (kI 0)),oF 36 41 (.mov (tT 40)),oT 41 42 (.mov (tT 0)),oT 41 43 (.mov (tT 1)),oT 41 44 (.mov (tT 2)),oT 41 45 (.mov (tT 8)),
 oT 41 46 (.bin .sub .num (tT 44) (tT 45)),oT 41 47 (kC 156 [(tT 42),(tT 43),(tT 46)]),oF 36 48 (.pick (tT 41) (tT 47) kF),oO 49 (.pick (tT 36) kT (tT 48))]) (.cond (tT 49) (sQ (.region [oO 6 (.mov kF)]) .ret) .skip))))) (.region [oO 50 (.bin .add .num (tT 19) (kI 1)),
 oM 19 50]))))))) (sQ (.region [oO 6 (.mov kT)]) .ret))))
theorem ok119 : FnOk Tryz.prog 119 51 ir119 [.tmp 6] := Z8 mixed Tryz.func119 (by kernel_rfl) Tryz.ntmps119 (by kernel_rfl) (by kernel_rfl)
def ir120 : ACode := (sQ (.region [oO 4 (.alloc [nS])]) (sQ (.region [oO 5 (.alloc [nS])]) (sQ (sQ (.region [oM 8 0,oO 9 (.nilck (tT 8)),oO 10 (.faddr 0 (tT 9)),oO 11 (.load false 1 (tT 10)),oO 12 (.len (tT 11)),
 oO 13 (.mov (kI 0))]) (.block 0 (.loop (sQ (.region [oO 14 (.bin .lss .num (tT 13) (tT 12))]) (sQ (.cond (tT 14) .skip (.exit 0)) (sQ (.block 1 (sQ (.region [oM 15 13,oO 16 (.iaddr 1 (tT 11) (tT 13)),oO 17 (.load false 1 (tT 16)),
 oM 6 15,oM 7 17]) (sQ (.region [oM 18 1,oM 19 6,oO 20 (.bin .shr .num (tT 18) (tT 19)),oO 21 (.bin .and .num (tT 20) (kI 1)),oO 22 (.bin .eql .num (tT 21) (kI 1))]) (.cond (tT 22) (.region [oO 23 (.load true 1 (tT 5)),
 oM 24 7,oO 25 (kC 114 [(tT 23),(tT 24)]),⟨none,.store 1 (tT 5) (tT 25),none⟩]) .skip)))) (.region [oO 26 (.bin .add .num (tT 13) (kI 1)),oM 13 26]))))))) (sQ (.region [oO 27 (.load true 1 (tT 5)),⟨none,
 .store 1 (tT 4) (tT 27),none⟩]) .ret))))
theorem ok120 : FnOk Tryz.prog 120 28 ir120 [.cell 4 true 1] := Z8 mixed Tryz.func120 (by kernel_rfl) Tryz.ntmps120 (by kernel_rfl) (by kernel_rfl)
def ir122 : ACode := (sQ (.region [oO 2 (.box (tT 0)),oO 3 (.box (tT 1)),oO 4 (.mov (kI 0))]) (sQ (sQ (.region [oO 6 (.faddr 0 (tT 2)),oO 7 (.load true 1 (tT 6)),oO 8 (.faddr 0 (tT 3)),oO 9 (.load true 1 (tT 8)),
 oO 10 (kC 116 [(tT 7),(tT 9)]),oM 5 10]) (sQ (.region [oM 11 5,oO 12 (.bin .neq .num (tT 11) (kI 0))]) (.cond (tT 12) (sQ (.region [oM 13 5,oM 4 13]) .ret) .skip))) (sQ (.region [oO 14 (.faddr 1 (tT 2)),
 oO 15 (.load true 1 (tT 14)),oO 16 (.faddr 1 (tT 3)),oO 17 (.load true 1 (tT 16)),oO 18 (kC 116 [(tT 15),(tT 17)]),oM 4 18]) .ret)))
theorem ok122 : FnOk Tryz.prog 122 19 ir122 [.tmp 4] := Z8 mixed Tryz.func122 (by kernel_rfl) Tryz.ntmps122 (by kernel_rfl) (by kernel_rfl)
def ir123 : ACode := (sQ (.region [oO 3 (.box (tT 1)),oO 4 (.mov (kI 0))]) (sQ (.region [oO 5 (.mov (kI 0))]) (sQ (sQ (.region [oM 8 0,oO 9 (.len (tT 8)),oO 10 (.mov (kI 0))]) (.block 0 (.loop (sQ (.region [oO 11 (.bin .lss .num (tT 10) (tT 9))]) (sQ (.cond (tT 11) .skip (.exit 0)) (sQ (.block 1 (sQ (.region [oO 12 (.iaddr 1 (tT 8) (tT 10)),
 oO 13 (.load false 1 (tT 12)),oM 7 13]) (.region [oM 14 5,oO 15 (.load true 1 (tT 3)),oM 16 7,oO 17 (kC 72 [(tT 15),(tT 16)]),oO 18 (kC 124 [(tT 17)]),oO 19 (.bin .add .num (tT 14) (tT 18)),oM 5 19]))) (.region [oO 20 (.bin .add .num (tT 10) (kI 1)),
 oM 10 20]))))))) (sQ (.region [oM 21 5,oM 4 21]) .ret))))
theorem ok123 : FnOk Tryz.prog 123 22 ir123 [.tmp 4] := Z8 mixed Tryz.func123 (by kernel_rfl) Tryz.ntmps123 (by kernel_rfl) (by kernel_rfl)
def ir124 : ACode := (sQ (.region [oO 2 (.mov (kI 0))]) (sQ (sQ (.region [oM 3 0]) (.cond (tT 3) (sQ (.region [oO 2 (.mov (kI 1))]) .ret) .skip)) (sQ (.region [oO 2 (.mov (kI 0))]) .ret)))
theorem ok124 : FnOk Tryz.prog 124 4 ir124 [.tmp 2] := Z8 mixed Tryz.func124 (by kernel_rfl) Tryz.ntmps124 (by kernel_rfl) (by kernel_rfl)
def ir127 : ACode := (sQ (.region [oO 2 (.box (tT 0)),oO 4 (.mov (kI 0))]) (sQ (.region [oO 5 (.mov (.const nS))]) (sQ (sQ (.region [oO 11 (.faddr 3 (tT 2)),oO 12 (.load false 1 (tT 11)),oO 13 (.len (tT 12)),
 oO 14 (.mov (kI 0))]) (.block 0 (.loop (sQ (.region [oO 15 (.bin .lss .num (tT 14) (tT 13))]) (sQ (.cond (tT 15) .skip (.exit 0)) (sQ (.block 1 (sQ (.region [oO 16 (.iaddr 4 (tT 12) (tT 14)),oO 17 (.load true 4 (tT 16)),
 oO 7 (.alloc [(.int .i64 0),(.int .i64 0),nS,nS]),⟨none,.store 4 (tT 7) (tT 17),none⟩]) (.region [oM 18 5,oO 19 (.load true 4 (tT 7)),oM 20 1,oO 21 (kC 127 [(tT 19),(tT 20)]),oO 22 (.bslice [(.int .i64 0)] 1 [(0,
 (tT 21))]),oO 23 (.append [(.int .i64 0)] 8 (tT 18) (tT 22)),oM 5 23]))) (.region [oO 24 (.bin .add .num (tT 14) (kI 1)),oM 14 24]))))))) (sQ (sQ (.region [oO 25 (.faddr 0 (tT 2)),oO 26 (.load false 1 (tT 25))]) (.block 2 (sQ (.region [oO 28 (.bin .eql .num (tT 26) (kI 1)),
 oM 27 28]) (.cond (tT 27) (sQ (.region [oO 29 (.faddr 1 (tT 2)),oO 30 (.load false 1 (tT 29)),oM 4 30]) .ret) (sQ (.region [oO 32 (.bin .eql .num (tT 26) (kI 2)),oM 31 32]) (.cond (tT 31) (sQ (.region [oO 4 (.mov (kI 1))]) .ret) (sQ (sQ (.region [oO 34 (.bin .eql .num (tT 26) (kI 4)),
 oM 33 34]) (.cond (tT 33) .skip (.region [oO 35 (.bin .eql .num (tT 26) (kI 5)),oM 33 35]))) (.cond (tT 33) (sQ (.region [oO 8 (.mov (kI 0))]) (sQ (sQ (.region [oO 36 (.faddr 2 (tT 2)),oO 37 (.load false 1 (tT 36)),
 oO 38 (.len (tT 37)),oO 39 (.mov (kI 0))]) (.block 3 (.loop (sQ (.region [oO 40 (.bin .lss .num (tT 39) (tT 38))]) (sQ (.cond (tT 40) .skip (.exit 3)) (sQ (.block 4 (sQ (.region [oO 41 (.iaddr 1 (tT 37) (tT 39)),
 oO 42 (.load false 1 (tT 41)),oM 10 42]) (.region [oM 43 8,oM 44 1,oM 45 10,oO 46 (.bin .shr .num (tT 44) (tT 45)),oO 47 (.bin .rem .num (tT 46) (.const (.int .u64 2))),oO 48 (.conv .i64 (tT 47)),oO 49 (.bin .add .num (tT 43) (tT 48)),
 oM 8 49]))) (.region [oO 50 (.bin .add .num (tT 39) (kI 1)),oM 39 50]))))))) (sQ (.region [oM 51 8,oM 4 51]) .ret))) (sQ (.region [oO 53 (.bin .eql .num (tT 26) (kI 7)),oM 52 53]) (.cond (tT 52) (sQ (.region [oM 54 5,
 oO 55 (.iaddr 1 (tT 54) (kI 0)),oO 56 (.load false 1 (tT 55)),oO 57 (.bin .sub .num (kI 1) (tT 56)),oM 4 57]) .ret) (sQ (.region [oO 59 (.bin .eql .num (tT 26) (kI 8)),oM 58 59]) (.cond (tT 58) (sQ (.region [oM 60 5,
 oO 61 (.iaddr 1 (tT 60) (kI 0)),oO 62 (.load false 1 (tT 61)),oO 63 (.bin .eql .num (tT 62) (kI 1)),oM 64 63,oT 64 65 (.mov (tT 5)),oT 64 66 (.iaddr 1 (tT 65) (kI 1)),oT 64 67 (.load false 1 (tT 66)),oT 64 68 (.bin .eql .num (tT 67) (kI 1)),
 oO 69 (.pick (tT 64) (tT 68) kF),oO 70 (kC 158 [(tT 69)]),oM 4 70]) .ret) (sQ (.region [oO 72 (.bin .eql .num (tT 26) (kI 9)),oM 71 72]) (.cond (tT 71) (sQ (.region [oM 73 5,oO 74 (.iaddr 1 (tT 73) (kI 0)),
 oO 75 (.load false 1 (tT 74)),oO 76 (.bin .eql .num (tT 75) (kI 1)),oM 77 76,oF 77 78 (.mov (tT 5)),oF 77 79 (.iaddr 1 (tT 78) (kI 1)),oF 77 80 (.load false 1 (tT 79)),oF 77 81 (.bin .eql .num (tT 80) (kI 1)),
 oO 82 (.pick (tT 77) kT (tT 81)),oO 83 (kC 158 [(tT 82)]),oM 4 83]) .ret) (sQ (.region [oO 85 (.bin .eql .num (tT 26) (kI 10)),oM 84 85]) (.cond (tT 84) (sQ (.region [oM 86 5,oO 87 (.iaddr 1 (tT 86) (kI 0)),
 oO 88 (.load false 1 (tT 87)),oO 89 (.bin .eql .num (tT 88) (kI 0)),oM 90 89,oF 90 91 (.mov (tT 5)),oF 90 92 (.iaddr 1 (tT 91) (kI 1)),oF 90 93 (.load false 1 (tT 92)),oF 90 94 (.bin .eql .num (tT 93) (kI 1)),
 oO 95 (.pick (tT 90) kT (tT 94)),oO 96 (kC 158 [(tT 95)]),oM 4 96]) .ret) (sQ (.region [oO 98 (.bin .eql .num (tT 26) (kI 11)),oM 97 98]) (.cond (tT 97) (sQ (.draw [⟨0,oM 99 5,0,0,false⟩,⟨1,oO 100 (.iaddr 1 (tT 99) (kI 0)),
 1,0,false⟩,⟨2,oO 101 (.load false 1 (tT 100)),3,0,false⟩,⟨3,oM 102 5,0,0,false⟩,⟨4,oO 103 (.iaddr 1 (tT 102) (kI 1)),8,0,false⟩,⟨5,oO 104 (.load false 1 (tT 103)),24,0,false⟩,⟨6,oO 105 (.bin .leq .num (tT 101) (tT 104)),
 63,1,false⟩,⟨7,oO 106 (kC 158 [(tT 105)]),127,1,false⟩,⟨8,oM 4 106,255,1,false⟩]) .ret) (sQ (.region [oO 108 (.bin .eql .num (tT 26) (kI 12)),oM 107 108]) (.cond (tT 107) (sQ (.draw [⟨0,oM 109 5,0,0,false⟩,
 ⟨1,oO 110 (.iaddr 1 (tT 109) (kI 0)),1,0,false⟩,⟨2,oO 111 (.load false 1 (tT 110)),3,0,false⟩,⟨3,oM 112 5,0,0,false⟩,⟨4,oO 113 (.iaddr 1 (tT 112) (kI 1)),8,0,false⟩,⟨5,oO 114 (.load false 1 (tT 113)),24,
 0,false⟩,⟨6,oO 115 (.bin .lss .num (tT 111) (tT 114)),63,1,false⟩,⟨7,oO 116 (kC 158 [(tT 115)]),127,1,false⟩,⟨8,oM 4 116,255,1,false⟩]) .ret) (sQ (.region [oO 118 (.bin .eql .num (tT 26) (kI 13)),oM 117 118]) (.cond (tT 117) (sQ (.draw [⟨0,
 oM 119 5,0,0,false⟩,⟨1,oO 120 (.iaddr 1 (tT 119) (kI 0)),1,0,false⟩,⟨2,oO 121 (.load false 1 (tT 120)),3,0,false⟩,⟨3,oM 122 5,0,0,false⟩,⟨4,oO 123 (.iaddr 1 (tT 122) (kI 1)),8,0,false⟩,⟨5,oO 124 (.load false 1 (tT 123)),
 24,0,false⟩,⟨6,oO 125 (.bin .geq .num (tT 121) (tT 124)),63,1,false⟩,⟨7,oO 126 (kC 158 [(tT 125)]),127,1,false⟩,⟨8,oM 4 126,255,1,false⟩]) .ret) (sQ (.region [oO 128 (.bin .eql .num (tT 26) (kI 14)),oM 127 128]) (.cond (tT 127) (sQ (.draw [⟨0,
 oM 129 5,0,0,false⟩,⟨1,oO 130 (.iaddr 1 (tT 129) (kI 0)),1,0,false⟩,⟨2,oO 131 (.load false 1 (tT 130)),3,0,false⟩,⟨3,oM 132 5,0,0,false⟩,⟨4,oO 133 (.iaddr 1 (tT 132) (kI 1)),8,0,false⟩,⟨5,oO 134 (.load false 1 (tT 133)),
 24,0,false⟩,⟨6,oO 135 (.bin .gtr .num (tT 131) (tT 134)),63,1,false⟩,⟨7,oO 136 (kC 158 [(tT 135)]),127,1,false⟩,⟨8,oM 4 136,255,1,false⟩]) .ret) (sQ (.region [oO 138 (.bin .eql .num (tT 26) (kI 15)),oM 137 138]) (.cond (tT 137) (sQ (.draw [⟨0,
 oM 139 5,0,0,false⟩,⟨1,oO 140 (.iaddr 1 (tT 139) (kI 0)),1,0,false⟩,⟨2,oO 141 (.load false 1 (tT 140)),3,0,false⟩,⟨3,oM 142 5,0,0,false⟩,⟨4,oO 143 (.iaddr 1 (tT 142) (kI 1)),8,0,false⟩,⟨5,oO 144 (.load false 1 (tT 143)),
 24,0,false⟩,⟨6,oO 145 (.bin .eql .num (tT 141) (tT 144)),63,1,false⟩,⟨7,oO 146 (kC 158 [(tT 145)]),127,1,false⟩,⟨8,oM 4 146,255,1,false⟩]) .ret) (sQ (.region [oO 148 (.bin .eql .num (tT 26) (kI 16)),oM 147 148]) (.cond (tT 147) (sQ (.draw [⟨0,
 oM 149 5,0,0,false⟩,⟨1,oO 150 (.iaddr 1 (tT 149) (kI 0)),1,0,false⟩,⟨2,oO 151 (.load false 1 (tT 150)),3,0,false⟩,⟨3,oM 152 5,0,0,false⟩,⟨4,oO 153 (.iaddr 1 (tT 152) (kI 1)),8,0,false⟩,⟨5,oO 154 (.load false 1 (tT 153)),
 24,0,false⟩,⟨6,oO 155 (.bin .add .num (tT 151) (tT 154)),63,1,false⟩,⟨7,oM 4 155,127,1,false⟩]) .ret) .skip)))))))))))))))))))))))))))) (sQ (.region [oO 4 (.mov (kI 0))]) .ret)))))
theorem ok127 : FnOk Tryz.prog 127 156 ir127 [.tmp 4] := Z8 mixed Tryz.func127 (by kernel_rfl) Tryz.ntmps127 (by kernel_rfl) (by kernel_rfl)
def ir129 : ACode := (sQ (.region [oO 1 (.box (tT 0)),oO 2 (.mov (kI 0)),oO 3 (.mov (kI 0))]) (sQ (sQ (.region [oO 8 (.faddr 3 (tT 1)),oO 9 (.load false 1 (tT 8)),oO 10 (.len (tT 9)),oO 11 (.mov (kI 0))]) (.block 0 (.loop (sQ (.region [oO 12 (.bin .lss .num (tT 11) (tT 10))]) (sQ (.cond (tT 12) .skip (.exit 0)) (sQ (.block 1 (sQ (.region [oO 13 (.iaddr 4 (tT 9) (tT 11)),
 oO 14 (.load true 4 (tT 13)),oO 5 (.alloc [(.int .u8 0),(.int .i64 0),nS,nS]),⟨none,.store 4 (tT 5) (tT 14),none⟩]) (sQ (.region [oO 16 (.load true 4 (tT 5)),oO 17 (kC 129 [(tT 16)]),oM 15 17,oO 18 (.extract (tT 15) 0),
 oO 19 (.extract (tT 15) 1),oM 6 18,oM 7 19]) (.region [oM 20 2,oM 21 6,oO 22 (.mx (tT 20) (tT 21)),oM 23 3,oM 24 7,oO 25 (.bin .add .num (tT 23) (tT 24)),oM 2 22,oM 3 25])))) (.region [oO 26 (.bin .add .num (tT 11) (kI 1)),
 oM 11 26]))))))) (sQ (.region [oM 27 2,oO 28 (.bin .add .num (tT 27) (kI 1)),oM 29 3,oO 30 (.bin .add .num (tT 29) (kI 1)),oM 2 28,oM 3 30]) .ret)))
theorem ok129 : FnOk Tryz.prog 129 31 ir129 [.tmp 2, .tmp 3] := Z8 mixed Tryz.func129 (by kernel_rfl) Tryz.ntmps129 (by kernel_rfl) (by kernel_rfl)
def ir130 : ACode := (sQ (.region [oO 2 (.box (tT 0)),oO 4 (.mov (kI 0))]) (sQ (sQ (.region [oO 10 (.load true 4 (tT 2)),oO 11 (kC 159 [(tT 10)]),oM 5 11]) (sQ (.region [oM 12 5,oO 13 (.bin .neq .num (tT 12) (kI 0))]) (.cond (tT 13) (sQ (.region [oM 14 5,
 oM 4 14]) .ret) .skip))) (sQ (.region [oO 15 (.faddr 0 (tT 2)),oO 16 (.load false 1 (tT 15)),oO 17 (.bin .eql .num (tT 16) (.const (.int .u8 4))),oM 18 17,oF 18 19 (.faddr 0 (tT 2)),oF 18 20 (.load false 1 (tT 19)),
 oF 18 21 (.bin .eql .num (tT 20) (.const (.int .u8 5))),oO 22 (.pick (tT 18) kT (tT 21)),oM 6 22]) (sQ (sQ (.region [oM 23 1,oO 24 (.bin .eql .num (tT 23) (.const (.int .u8 3))),oM 25 24,oT 25 26 (.mov (tT 6)),
 oO 27 (.pick (tT 25) (tT 26) kF),oM 28 27,oF 28 29 (.mov (tT 1)),oF 28 30 (.bin .neq .num (tT 29) (.const (.int .u8 0))),oF 28 31 (.mov (tT 30)),oT 31 32 (.mov (tT 1)),oT 31 33 (.bin .neq .num (tT 32) (.const (.int .u8 3))),
 oF 28 34 (.pick (tT 31) (tT 33) kF),oF 28 35 (.mov (tT 34)),oT 35 36 (.faddr 0 (tT 2)),oT 35 37 (.load false 1 (tT 36)),oT 35 38 (.bin .eql .num (tT 37) (.const (.int .u8 6))),oF 28 39 (.pick (tT 35) (tT 38) kF),
 oO 40 (.pick (tT 28) kT (tT 39))]) (.cond (tT 40) (sQ (.region [oO 4 (.mov (kI 10))]) .ret) .skip)) (sQ (sQ (.region [oO 41 (.faddr 3 (tT 2)),oO 42 (.load false 1 (tT 41)),oO 43 (.len (tT 42)),oO 44 (.mov (kI 0))]) (.block 0 (.loop (sQ (.region [oO 45 (.bin .lss .num (tT 44) (tT 43))]) (sQ (.cond (tT 45) .skip (.exit 0)) (sQ (.block 1 (sQ (.region [oO 46 (.iaddr 4 (tT 42) (tT 44)),
 oO 47 (.load true 4 (tT 46)),oO 8 (.alloc [(.int .u8 0),(.int .i64 0),nS,nS]),⟨none,.store 4 (tT 8) (tT 47),none⟩]) (sQ (.region [oO 48 (.load true 4 (tT 8)),oM 49 1,oO 50 (kC 130 [(tT 48),(tT 49)]),oM 9 50]) (sQ (.region [oM 51 9,
 oO 52 (.bin .neq .num (tT 51) (kI 0))]) (.cond (tT 52) (sQ (.region [oM 53 9,oM 4 53]) .ret) .skip))))) (.region [oO 54 (.bin .add .num (tT 44) (kI 1)),oM 44 54]))))))) (sQ (.region [oO 4 (.mov (kI 0))]) .ret))))))
theorem ok130 : FnOk Tryz.prog 130 55 ir130 [.tmp 4] := Z8 mixed Tryz.func130 (by kernel_rfl) Tryz.ntmps130 (by kernel_rfl) (by kernel_rfl)
def ir132 : ACode := (sQ (.region [oO 2 (.box (tT 0)),oO 3 (.box (tT 1)),oO 4 (.mov (kI 0))]) (sQ (sQ (.region [oO 5 (.iaddrA 2 1 (tT 2) (kI 0)),oO 6 (.load false 1 (tT 5)),oO 7 (.iaddrA 2 1 (tT 3) (kI 0)),
 oO 8 (.load false 1 (tT 7)),oO 9 (.bin .neq .num (tT 6) (tT 8))]) (.cond (tT 9) (sQ (.region [oO 10 (.iaddrA 2 1 (tT 2) (kI 0)),oO 11 (.load false 1 (tT 10)),oO 12 (.iaddrA 2 1 (tT 3) (kI 0)),oO 13 (.load false 1 (tT 12)),
 oO 14 (.bin .sub .num (tT 11) (tT 13)),oM 4 14]) .ret) .skip)) (sQ (.region [oO 15 (.iaddrA 2 1 (tT 2) (kI 1)),oO 16 (.load false 1 (tT 15)),oO 17 (.iaddrA 2 1 (tT 3) (kI 1)),oO 18 (.load false 1 (tT 17)),
 oO 19 (.bin .sub .num (tT 16) (tT 18)),oM 4 19]) .ret)))
theorem ok132 : FnOk Tryz.prog 132 20 ir132 [.tmp 4] := Z8 mixed Tryz.func132 (by kernel_rfl) Tryz.ntmps132 (by kernel_rfl) (by kernel_rfl)
def ir133 : ACode := (sQ (.region [oO 2 (.mov (.const nS))]) (sQ (.region [oM 3 0,oM 4 0,oO 5 (.len (tT 4)),oM 6 0,oO 7 (.len (tT 6)),oO 8 (.slc 2 (tT 3) none (some (tT 5)) (some (tT 7))),oM 2 8]) .ret))
theorem ok133 : FnOk Tryz.prog 133 9 ir133 [.tmp 2] := Z8 mixed Tryz.func133 (by kernel_rfl) Tryz.ntmps133 (by kernel_rfl) (by kernel_rfl)
def ir134 : ACode := (sQ (.region [oO 2 (.mov (.const nS))]) (sQ (sQ (.region [oM 6 0,oO 7 (.len (tT 6)),oO 8 (.bin .lss .num (tT 7) (kI 2))]) (.cond (tT 8) (sQ (.region [oM 9 0,oM 2 9]) .ret) .skip)) (sQ (sQ (.region [oO 3 (.mov (kI 1))]) (.block 0 (.loop (sQ (sQ (.region [oM 10 3,
 oM 11 0,oO 12 (.len (tT 11)),oO 13 (.bin .lss .num (tT 10) (tT 12))]) (.cond (tT 13) .skip (.exit 0))) (sQ (.block 1 (sQ (.draw [⟨0,oM 16 0,0,0,false⟩,⟨1,oM 17 3,0,0,false⟩,⟨2,oO 18 (.iaddr 2 (tT 16) (tT 17)),
 3,0,false⟩,⟨3,oO 19 (.load true 2 (tT 18)),7,0,false⟩,⟨4,oM 20 0,0,0,false⟩,⟨5,oM 21 3,0,0,false⟩,⟨6,oO 22 (.bin .sub .num (tT 21) (kI 1)),32,0,false⟩,⟨7,oO 23 (.iaddr 2 (tT 20) (tT 22)),112,0,false⟩,⟨8,
 oO 24 (.load true 2 (tT 23)),240,0,false⟩,⟨9,oO 25 (.bin .eql (.cells [0,0]) (tT 19) (tT 24)),511,1,false⟩]) (.cond (tT 25) (sQ (.region [oM 26 0,oM 27 3,oO 28 (.slc 2 (tT 26) (some (tT 27)) none none),
 oM 4 28]) (sQ (sQ (.region [oO 5 (.mov (kI 1))]) (.block 2 (.loop (sQ (sQ (.region [oM 29 5,oM 30 4,oO 31 (.len (tT 30)),oO 32 (.bin .lss .num (tT 29) (tT 31))]) (.cond (tT 32) .skip (.exit 2))) (sQ (.block 3 (sQ (.draw [⟨0,
 oM 35 4,0,0,false⟩,⟨1,oM 36 5,0,0,false⟩,⟨2,oO 37 (.iaddr 2 (tT 35) (tT 36)),3,0,false⟩,⟨3,oO 38 (.load true 2 (tT 37)),7,0,false⟩,⟨4,oM 39 4,0,0,false⟩,⟨5,oM 40 5,0,0,false⟩,⟨6,oO 41 (.bin .sub .num (tT 40) (kI 1)),
 32,0,false⟩,⟨7,oO 42 (.iaddr 2 (tT 39) (tT 41)),112,0,false⟩,⟨8,oO 43 (.load true 2 (tT 42)),240,0,false⟩,⟨9,oO 44 (.bin .neq (.cells [0,0]) (tT 38) (tT 43)),511,1,false⟩]) (.cond (tT 44) (sQ (.region [oM 45 0,
 oM 46 3,oM 47 4,oM 48 5,oO 49 (.iaddr 2 (tT 47) (tT 48)),oO 50 (.load true 2 (tT 49)),oO 51 (.iaddr 2 (tT 45) (tT 46)),⟨none,.store 2 (tT 51) (tT 50),none⟩]) (.region [oM 52 3,oO 53 (.bin .add .num (tT 52) (kI 1)),
 oM 3 53])) .skip))) (.region [oM 33 5,oO 34 (.bin .add .num (tT 33) (kI 1)),oM 5 34])))))) (sQ (.region [oM 54 0,oM 55 3,oO 56 (.slc 2 (tT 54) (some (tT 55)) none none),⟨none,.clear [(.int .i64 0),(.int .i64 0)] (tT 56),
 none⟩]) (sQ (.region [oM 57 0,oM 58 3,oO 59 (.slc 2 (tT 57) none (some (tT 58)) none),oM 2 59]) .ret)))) .skip))) (.region [oM 14 3,oO 15 (.bin .add .num (tT 14) (kI 1)),oM 3 15])))))) (sQ (.region [oM 60 0,
 oM 2 60]) .ret))))
theorem ok134 : FnOk Tryz.prog 134 61 ir134 [.tmp 2] := Z8 mixed Tryz.func134 (by kernel_rfl) Tryz.ntmps134 (by kernel_rfl) (by kernel_rfl)
def ir135 : ACode := (sQ (.region [oO 2 (.mov kF)]) (sQ (.region [oM 9 0,oO 10 (.nilck (tT 9)),oO 11 (.faddr 0 (tT 10)),oO 12 (.load false 1 (tT 11)),oO 13 (.mslice [(.int .i64 0)] 8 (tT 12) (tT 12)),oM 3 13]) (sQ (sQ (.region [oM 14 0,
 oO 15 (.nilck (tT 14)),oO 16 (.faddr 1 (tT 15)),oO 17 (.load false 1 (tT 16)),oO 18 (.len (tT 17)),oO 19 (.mov (kI 0))]) (.block 0 (.loop (sQ (.region [oO 20 (.bin .lss .num (tT 19) (tT 18))]) (sQ (.cond (tT 20) .skip (.exit 0)) (sQ (.block 1 (sQ (.region [oO 21 (.iaddr 2 (tT 17) (tT 19)),
 oO 22 (.load true 2 (tT 21)),oO 5 (.alloc [(.int .i64 0),(.int .i64 0)]),⟨none,.store 2 (tT 5) (tT 22),none⟩]) (.region [oM 23 3,oO 24 (.iaddrA 2 1 (tT 5) (kI 1)),oO 25 (.load false 1 (tT 24)),oO 26 (.iaddr 1 (tT 23) (tT 25)),
 oO 27 (.load false 1 (tT 26)),oO 28 (.bin .add .num (tT 27) (kI 1)),oO 29 (.iaddr 1 (tT 23) (tT 25)),⟨none,.store 1 (tT 29) (tT 28),none⟩]))) (.region [oO 30 (.bin .add .num (tT 19) (kI 1)),oM 19 30]))))))) (sQ (.block 2 (.loop (sQ (sQ (.draw [⟨0,
 oM 31 0,0,0,false⟩,⟨1,oO 32 (.nilck (tT 31)),1,0,false⟩,⟨2,oO 33 (.faddr 4 (tT 32)),3,0,false⟩,⟨3,oO 34 (.load false 1 (tT 33)),7,0,false⟩,⟨4,oO 35 (.len (tT 34)),15,0,false⟩,⟨5,oM 36 0,0,0,false⟩,⟨6,oO 37 (.nilck (tT 36)),
 32,0,false⟩,⟨7,oO 38 (.faddr 0 (tT 37)),96,0,false⟩,⟨8,oO 39 (.load false 1 (tT 38)),224,0,false⟩,⟨9,oO 40 (.bin .lss .num (tT 35) (tT 39)),511,1,false⟩]) (.cond (tT 40) .skip (.exit 2))) (.block 3 (sQ (.region [oM 41 3,
 oO 42 (kC 161 [(tT 41),(kI 0)]),oM 6 42]) (sQ (sQ (.region [oM 43 6,oO 44 (.bin .lss .num (tT 43) (kI 0))]) (.cond (tT 44) (sQ (.region [oO 2 (.mov kF)]) .ret) .skip)) (sQ (.region [oM 45 3,oM 46 6,oO 47 (.iaddr 1 (tT 45) (tT 46)),
 ⟨none,.store 1 (tT 47) (.const (.int .i64 (-1))),none⟩]) (sQ (.region [oM 48 0,oM 49 0,oO 50 (.nilck (tT 49)),oO 51 (.faddr 4 (tT 50)),oO 52 (.load false 1 (tT 51)),oM 53 6,oO 54 (.bslice [(.int .i64 0)] 1 [(0,
 (tT 53))]),oO 55 (.append [(.int .i64 0)] 8 (tT 52) (tT 54)),oO 56 (.nilck (tT 48)),oO 57 (.faddr 4 (tT 56)),⟨none,.store 1 (tT 57) (tT 55),none⟩]) (sQ (.region [oM 58 0,oO 59 (.nilck (tT 58)),oO 60 (.faddr 1 (tT 59)),
 oO 61 (.load false 1 (tT 60)),oO 62 (.len (tT 61)),oO 63 (.mov (kI 0))]) (.block 4 (.loop (sQ (.region [oO 64 (.bin .lss .num (tT 63) (tT 62))]) (sQ (.cond (tT 64) .skip (.exit 4)) (sQ (.block 5 (sQ (.region [oO 65 (.iaddr 2 (tT 61) (tT 63)),
 oO 66 (.load true 2 (tT 65)),oO 8 (.alloc [(.int .i64 0),(.int .i64 0)]),⟨none,.store 2 (tT 8) (tT 66),none⟩]) (sQ (.region [oO 67 (.iaddrA 2 1 (tT 8) (kI 0)),oO 68 (.load false 1 (tT 67)),oM 69 6,oO 70 (.bin .eql .num (tT 68) (tT 69))]) (.cond (tT 70) (.region [oM 71 3,
 oO 72 (.iaddrA 2 1 (tT 8) (kI 1)),oO 73 (.load false 1 (tT 72)),oO 74 (.iaddr 1 (tT 71) (tT 73)),oO 75 (.load false 1 (tT 74)),oO 76 (.bin .sub .num (tT 75) (kI 1)),oO 77 (.iaddr 1 (tT 71) (tT 73)),⟨none,
 .store 1 (tT 77) (tT 76),none⟩]) .skip)))) (.region [oO 78 (.bin .add .num (tT 63) (kI 1)),oM 63 78]))))))))))))))) (sQ (.region [oO 2 (.mov kT)]) .ret)))))
theorem ok135 : FnOk Tryz.prog 135 79 ir135 [.tmp 2] := Z8 mixed Tryz.func135 (by kernel_rfl) Tryz.ntmps135 (by kernel_rfl) (by kernel_rfl)
def ir136 : ACode := (sQ (.region [oO 1 (.box (tT 0))]) (sQ (.draw [⟨0,oO 10 (.load false 1 (tT 1)),0,0,false⟩,⟨1,oO 11 (.load false 1 (tT 1)),0,0,false⟩,⟨2,oO 12 (.load false 1 (tT 1)),0,0,false⟩,⟨3,oO 13 (.nilck (tT 12)),
 4,0,false⟩,⟨4,oO 14 (.faddr 0 (tT 13)),12,0,false⟩,⟨5,oO 15 (.load false 1 (tT 14)),28,0,false⟩,⟨6,oO 16 (.mslice [nS] 24 (tT 15) (tT 15)),60,0,false⟩,⟨7,oO 17 (.load false 1 (tT 1)),0,0,false⟩,⟨8,oO 18 (.nilck (tT 17)),
 128,0,false⟩,⟨9,oO 19 (.faddr 0 (tT 18)),384,0,false⟩,⟨10,oO 20 (.load false 1 (tT 19)),896,0,false⟩,⟨11,oO 21 (.mslice [nS] 24 (tT 20) (tT 20)),1920,0,false⟩,⟨12,oO 22 (.nilck (tT 10)),2045,0,false⟩,⟨13,
 oO 23 (.faddr 2 (tT 22)),6141,0,false⟩,⟨14,⟨none,.store 1 (tT 23) (tT 16),none⟩,14333,28666,false⟩,⟨15,oO 24 (.nilck (tT 11)),32767,1,false⟩,⟨16,oO 25 (.faddr 3 (tT 24)),65535,1,false⟩,⟨17,⟨none,.store 1 (tT 25) (tT 21),
 none⟩,131071,1,false⟩]) (sQ (.region [oO 26 (.load false 1 (tT 1)),oO 27 (.nilck (tT 26)),oO 28 (.faddr 0 (tT 27)),oO 29 (.load false 1 (tT 28)),oO 30 (.mslice [nS] 24 (tT 29) (tT 29)),oM 2 30]) (sQ (sQ (.region [oO 31 (.load false 1 (tT 1)),
 oO 32 (.nilck (tT 31)),oO 33 (.faddr 1 (tT 32)),oO 34 (.load false 1 (tT 33)),oO 35 (.len (tT 34)),oO 36 (.mov (kI 0))]) (.block 0 (.loop (sQ (.region [oO 37 (.bin .lss .num (tT 36) (tT 35))]) (sQ (.cond (tT 37) .skip (.exit 0)) (sQ (.block 1 (sQ (.region [oO 38 (.iaddr 2 (tT 34) (tT 36)),
 oO 39 (.load true 2 (tT 38)),oO 4 (.alloc [(.int .i64 0),(.int .i64 0)]),⟨none,.store 2 (tT 4) (tT 39),none⟩]) (.draw [⟨0,oM 40 2,0,0,false⟩,⟨1,oO 41 (.iaddrA 2 1 (tT 4) (kI 1)),0,0,false⟩,⟨2,oO 42 (.load false 1 (tT 41)),
 2,0,false⟩,⟨3,oM 43 2,0,0,false⟩,⟨4,oO 44 (.iaddrA 2 1 (tT 4) (kI 1)),0,0,false⟩,⟨5,oO 45 (.load false 1 (tT 44)),16,0,false⟩,⟨6,oO 46 (.iaddr 1 (tT 43) (tT 45)),56,0,false⟩,⟨7,oO 47 (.load false 1 (tT 46)),
 120,0,false⟩,⟨8,oO 48 (.iaddrA 2 1 (tT 4) (kI 0)),0,0,false⟩,⟨9,oO 49 (.load false 1 (tT 48)),256,0,false⟩,⟨10,oO 50 (.bslice [(.int .i64 0)] 1 [(0,(tT 49))]),768,0,false⟩,⟨11,oO 51 (.append [(.int .i64 0)] 8 (tT 47) (tT 50)),
 2040,4080,false⟩,⟨12,oO 52 (.iaddr 1 (tT 40) (tT 42)),4095,1,false⟩,⟨13,⟨none,.store 1 (tT 52) (tT 51),none⟩,8191,1,false⟩]))) (.region [oO 53 (.bin .add .num (tT 36) (kI 1)),oM 36 53]))))))) (sQ (.region [oO 54 (.load false 1 (tT 1)),
 oO 55 (.nilck (tT 54)),oO 56 (.faddr 4 (tT 55)),oO 57 (.load false 1 (tT 56)),oO 58 (.len (tT 57)),oO 59 (.mov (kI 0))]) (.block 2 (.loop (sQ (.region [oO 60 (.bin .lss .num (tT 59) (tT 58))]) (sQ (.cond (tT 60) .skip (.exit 2)) (sQ (.block 3 (sQ (.region [oO 61 (.iaddr 1 (tT 57) (tT 59)),
 oO 62 (.load false 1 (tT 61)),oO 6 (.alloc [(.int .i64 0)]),⟨none,.store 1 (tT 6) (tT 62),none⟩]) (sQ (sQ (.region [oM 63 2,oO 64 (.load false 1 (tT 6)),oO 65 (.iaddr 1 (tT 63) (tT 64)),oO 66 (.load false 1 (tT 65)),
 oO 67 (.len (tT 66)),oO 68 (.mov (kI 0))]) (.block 4 (.loop (sQ (.region [oO 69 (.bin .lss .num (tT 68) (tT 67))]) (sQ (.cond (tT 69) .skip (.exit 4)) (sQ (.block 5 (sQ (.region [oO 70 (.iaddr 1 (tT 66) (tT 68)),
 oO 71 (.load false 1 (tT 70)),oM 8 71]) (.draw [⟨0,oO 72 (.load false 1 (tT 1)),0,0,false⟩,⟨1,oO 73 (.nilck (tT 72)),1,0,false⟩,⟨2,oO 74 (.faddr 2 (tT 73)),3,0,false⟩,⟨3,oO 75 (.load false 1 (tT 74)),7,
 0,false⟩,⟨4,oO 76 (.load false 1 (tT 6)),0,0,false⟩,⟨5,oO 77 (.load false 1 (tT 1)),0,0,false⟩,⟨6,oO 78 (.nilck (tT 77)),32,0,false⟩,⟨7,oO 79 (.faddr 2 (tT 78)),96,0,false⟩,⟨8,oO 80 (.load false 1 (tT 79)),
 224,0,false⟩,⟨9,oO 81 (.load false 1 (tT 6)),0,0,false⟩,⟨10,oO 82 (.iaddr 1 (tT 80) (tT 81)),992,0,false⟩,⟨11,oO 83 (.load true 1 (tT 82)),2016,0,false⟩,⟨12,oO 84 (.load false 1 (tT 1)),0,0,false⟩,⟨13,
 oO 85 (.nilck (tT 84)),4096,0,false⟩,⟨14,oO 86 (.faddr 2 (tT 85)),12288,0,false⟩,⟨15,oO 87 (.load false 1 (tT 86)),28672,0,false⟩,⟨16,oM 88 8,0,0,false⟩,⟨17,oO 89 (.iaddr 1 (tT 87) (tT 88)),126976,0,false⟩,
 ⟨18,oO 90 (.load true 1 (tT 89)),258048,0,false⟩,⟨19,oO 91 (kC 29 [(tT 83),(tT 90)]),524256,0,false⟩,⟨20,oM 92 8,0,0,false⟩,⟨21,oO 93 (kC 114 [(tT 91),(tT 92)]),2097120,0,false⟩,⟨22,oO 94 (.iaddr 1 (tT 75) (tT 76)),
 4194303,1,false⟩,⟨23,⟨none,.store 1 (tT 94) (tT 93),none⟩,8388607,1,false⟩]))) (.region [oO 95 (.bin .add .num (tT 68) (kI 1)),oM 68 95]))))))) (sQ (.draw [⟨0,oO 96 (.load false 1 (tT 1)),0,0,false⟩,⟨1,
 oO 97 (.nilck (tT 96)),1,0,false⟩,⟨2,oO 98 (.faddr 2 (tT 97)),3,0,false⟩,⟨3,oO 99 (.load false 1 (tT 98)),7,0,false⟩,⟨4,oO 100 (.load false 1 (tT 6)),0,0,false⟩,⟨5,oO 101 (.iaddr 1 (tT 99) (tT 100)),31,
 1,false⟩,⟨6,oO 102 (.load true 1 (tT 101)),63,1,false⟩,⟨7,oO 103 (kC 26 [(tT 102)]),127,1,false⟩]) (.block 6 (.range (tT 103) [104] [(9,(tT 104))] (.block 7 (.draw [⟨0,oO 105 (.load false 1 (tT 1)),0,0,
 false⟩,⟨1,oO 106 (.nilck (tT 105)),1,0,false⟩,⟨2,oO 107 (.faddr 3 (tT 106)),3,0,false⟩,⟨3,oO 108 (.load false 1 (tT 107)),7,0,false⟩,⟨4,oM 109 9,0,0,false⟩,⟨5,oO 110 (.load false 1 (tT 1)),0,0,false⟩,⟨6,
 oO 111 (.nilck (tT 110)),32,0,false⟩,⟨7,oO 112 (.faddr 3 (tT 111)),96,0,false⟩,⟨8,oO 113 (.load false 1 (tT 112)),224,0,false⟩,⟨9,oM 114 9,0,0,false⟩,⟨10,oO 115 (.iaddr 1 (tT 113) (tT 114)),992,0,false⟩,
 ⟨11,oO 116 (.load true 1 (tT 115)),2016,0,false⟩,⟨12,oO 117 (.load false 1 (tT 6)),0,0,false⟩,⟨13,oO 118 (kC 114 [(tT 116),(tT 117)]),8160,0,false⟩,⟨14,oO 119 (.iaddr 1 (tT 108) (tT 109)),16383,1,false⟩,
 ⟨15,⟨none,.store 1 (tT 119) (tT 118),none⟩,32767,1,false⟩])))))))) (.region [oO 120 (.bin .add .num (tT 59) (kI 1)),oM 59 120])))))))))))
theorem ok136 : FnOk Tryz.prog 136 121 ir136 [] := Z8 mixed Tryz.func136 (by kernel_rfl) Tryz.ntmps136 (by kernel_rfl) (by kernel_rfl)
def ir139 : ACode := (sQ (.region [⟨(some 4),.mov (.const (.string ⟨#[]⟩)),none⟩,oO 5 (.mov kF)]) (sQ (sQ (.region [oM 6 1,oO 7 (.bin .lss .num (tT 6) (kI 1)),oM 8 7,oF 8 9 (.mov (tT 1)),oF 8 10 (.mov (tT 0)),
 oF 8 11 (kC 165 [(tT 10)]),oF 8 12 (.bin .gtr .num (tT 9) (tT 11)),oO 13 (.pick (tT 8) kT (tT 12))]) (.cond (tT 13) (sQ (.region [⟨(some 4),.mov (.const (.string ⟨#[]⟩)),none⟩,oO 5 (.mov kF)]) .ret) .skip)) (sQ (.region [oM 14 0,
 oO 15 (.nilck (tT 14)),oO 16 (.faddr 0 (tT 15)),oO 17 (.load false 1 (tT 16)),oM 18 1,oO 19 (.bin .sub .num (tT 18) (kI 1)),oO 20 (.iaddr 1 (tT 17) (tT 19)),oO 21 (.load false 1 (tT 20)),oM 4 21,oO 5 (.mov kT)]) .ret)))
theorem ok139 : FnOk Tryz.prog 139 22 ir139 [.tmp 4, .tmp 5] := Z8 mixed Tryz.func139 (by kernel_rfl) Tryz.ntmps139 (by kernel_rfl) (by kernel_rfl)
def ir142 : ACode := (sQ (.region [oO 4 (.mov kF)]) (sQ (.region [oM 5 0,oO 6 (.bin .neq .ptr (tT 5) (.const (.pointer none))),oM 7 6,oT 7 8 (.mov (tT 1)),oT 7 9 (.bin .geq .num (tT 8) (kI 0)),oO 10 (.pick (tT 7) (tT 9) kF),
 oM 11 10,oT 11 12 (.mov (tT 1)),oT 11 13 (.mov (tT 0)),oT 11 14 (.nilck (tT 13)),oT 11 15 (.faddr 0 (tT 14)),oT 11 16 (.load false 1 (tT 15)),oT 11 17 (.bin .lss .num (tT 12) (tT 16)),oO 18 (.pick (tT 11) (tT 17) kF),
 oM 4 18]) .ret))
theorem ok142 : FnOk Tryz.prog 142 19 ir142 [.tmp 4] := Z8 mixed Tryz.func142 (by kernel_rfl) Tryz.ntmps142 (by kernel_rfl) (by kernel_rfl)
def ir143 : ACode := (sQ (.region [oO 3 (.box (tT 1)),oO 4 (.mov kF)]) (sQ (.region [oM 5 0,oO 6 (.load true 2 (tT 3)),oO 7 (kC 167 [(tT 5),(tT 6)]),oO 8 (.bin .geq .num (tT 7) (kI 0)),oM 4 8]) .ret))
theorem ok143 : FnOk Tryz.prog 143 9 ir143 [.tmp 4] := Z8 mixed Tryz.func143 (by kernel_rfl) Tryz.ntmps143 (by kernel_rfl) (by kernel_rfl)
def ir144 : ACode := (sQ (.region [oO 2 (.mov (.const nS))]) (sQ (sQ (.region [oM 3 0,oO 4 (.bin .eql .ptr (tT 3) (.const (.pointer none)))]) (.cond (tT 4) (sQ (.region [oO 2 (.mov (.const nS))]) .ret) .skip)) (sQ (.region [oM 5 0,
 oO 6 (.nilck (tT 5)),oO 7 (.faddr 1 (tT 6)),oO 8 (.load false 1 (tT 7)),oO 9 (kC 168 [(tT 8)]),oM 2 9]) .ret)))
theorem ok144 : FnOk Tryz.prog 144 10 ir144 [.tmp 2] := Z8 mixed Tryz.func144 (by kernel_rfl) Tryz.ntmps144 (by kernel_rfl) (by kernel_rfl)
def ir147 : ACode := (sQ (.region [oO 2 (.mov (kI 0))]) (sQ (.region [oM 3 0,oO 4 (.nilck (tT 3)),oO 5 (.faddr 1 (tT 4)),oO 6 (.load false 1 (tT 5)),oO 7 (.bin .add .num (tT 6) (kI 1)),oO 8 (.nilck (tT 3)),
 oO 9 (.faddr 1 (tT 8)),⟨none,.store 1 (tT 9) (tT 7),none⟩]) (sQ (sQ (.draw [⟨0,oM 10 0,0,0,false⟩,⟨1,oO 11 (.nilck (tT 10)),1,0,false⟩,⟨2,oO 12 (.faddr 1 (tT 11)),3,0,false⟩,⟨3,oO 13 (.load false 1 (tT 12)),
 7,0,false⟩,⟨4,oM 14 0,0,0,false⟩,⟨5,oO 15 (.nilck (tT 14)),16,0,false⟩,⟨6,oO 16 (.faddr 0 (tT 15)),48,0,false⟩,⟨7,oO 17 (.load false 1 (tT 16)),112,0,false⟩,⟨8,oO 18 (.len (tT 17)),240,0,false⟩,⟨9,oO 19 (.bin .gtr .num (tT 13) (tT 18)),
 511,1,false⟩]) (.cond (tT 19) (sQ (.region [oO 2 (.mov (kI 0))]) .ret) .skip)) (sQ (.draw [⟨0,oM 20 0,0,0,false⟩,⟨1,oO 21 (.nilck (tT 20)),1,0,false⟩,⟨2,oO 22 (.faddr 0 (tT 21)),3,0,false⟩,⟨3,oO 23 (.load false 1 (tT 22)),
 7,0,false⟩,⟨4,oM 24 0,0,0,false⟩,⟨5,oO 25 (.nilck (tT 24)),16,0,false⟩,⟨6,oO 26 (.faddr 1 (tT 25)),48,0,false⟩,⟨7,oO 27 (.load false 1 (tT 26)),112,0,false⟩,⟨8,oO 28 (.bin .sub .num (tT 27) (kI 1)),240,
 0,false⟩,⟨9,oO 29 (.iaddr 1 (tT 23) (tT 28)),511,1,false⟩,⟨10,oO 30 (.load false 1 (tT 29)),1023,1,false⟩,⟨11,oO 31 (.conv .i64 (tT 30)),2047,1,false⟩,⟨12,oM 2 31,4095,1,false⟩]) .ret))))
theorem ok147 : FnOk Tryz.prog 147 32 ir147 [.tmp 2] := Z8 mixed Tryz.func147 (by kernel_rfl) Tryz.ntmps147 (by kernel_rfl) (by kernel_rfl)
def ir148 : ACode := (sQ (.region [oO 10 (.alloc [(.int .i64 0),(.int .i64 0),nS,nS])]) (sQ (.region [oM 13 0,oM 14 2,oO 15 (.bin .sub .num (tT 14) (kI 1)),oM 16 3,oM 17 4,oO 18 (kC 171 [(tT 13),(tT 15),
 (tT 16),(tT 17)]),oO 11 (.alloc [(.int .i64 0),(.int .i64 0),nS,nS]),⟨none,.store 4 (tT 11) (tT 18),none⟩]) (sQ (.region [oM 19 0,oM 20 2,oO 21 (.bin .sub .num (tT 20) (kI 1)),oM 22 3,oM 23 4,oO 24 (kC 171 [(tT 19),
 (tT 21),(tT 22),(tT 23)]),oO 12 (.alloc [(.int .i64 0),(.int .i64 0),nS,nS]),⟨none,.store 4 (tT 12) (tT 24),none⟩]) (sQ (.region [oM 25 1,oO 26 (.bin .rem .num (tT 25) (kI 5)),oO 27 (.bin .add .num (kI 11) (tT 26)),
 oO 28 (.load true 4 (tT 11)),oO 29 (.load true 4 (tT 12)),oO 30 (.bslice [(.int .i64 0),(.int .i64 0),nS,nS] 2 [(0,(tT 28)),(1,(tT 29))]),oO 31 (.build [(.int .i64 0),(.int .i64 0),nS,nS] [(0,1,(tT 27)),
 (3,1,(tT 30))]),⟨none,.store 4 (tT 10) (tT 31),none⟩]) .ret))))
theorem ok148 : FnOk Tryz.prog 148 32 ir148 [.cell 10 true 4] := Z8 mixed Tryz.func148 (by kernel_rfl) Tryz.ntmps148 (by kernel_rfl) (by kernel_rfl)
def ir149 : ACode := (sQ (.region [oO 2 (.mov kF)]) (sQ (.region [oM 3 0,oO 4 (.bin .geq .num (tT 3) (kI 1)),oM 5 4,oT 5 6 (.mov (tT 0)),oT 5 7 (.bin .leq .num (tT 6) (kI 63)),oO 8 (.pick (tT 5) (tT 7) kF),
 oM 2 8]) .ret))
theorem ok149 : FnOk Tryz.prog 149 9 ir149 [.tmp 2] := Z8 mixed Tryz.func149 (by kernel_rfl) Tryz.ntmps149 (by kernel_rfl) (by kernel_rfl)
def ir150 : ACode := (sQ (.region [oO 6 (.mov kF)]) (sQ (sQ (.region [oM 9 0,oO 10 (.len (tT 9)),oO 11 (.mov (kI 0))]) (.block 0 (.loop (sQ (.region [oO 12 (.bin .lss .num (tT 11) (tT 10))]) (sQ (.cond (tT 12) .skip (.exit 0)) (sQ (.block 1 (sQ (.region [oO 13 (.iaddr 2 (tT 9) (tT 11)),
 oO 14 (.load true 2 (tT 13)),oO 8 (.alloc [(.int .i64 0),(.int .i64 0)]),⟨none,.store 2 (tT 8) (tT 14),none⟩]) (sQ (.region [oO 15 (.iaddrA 2 1 (tT 8) (kI 0)),oO 16 (.load false 1 (tT 15)),oM 17 1,oO 18 (.bin .eql .num (tT 16) (tT 17)),
 oM 19 18,oT 19 20 (.iaddrA 2 1 (tT 8) (kI 1)),oT 19 21 (.load false 1 (tT 20)),oT 19 22 (.mov (tT 2)),oT 19 23 (.bin .eql .num (tT 21) (tT 22)),oO 24 (.pick (tT 19) (tT 23) kF)]) (.cond (tT 24) (sQ (.region [oO 6 (.mov kT)]) .ret) .skip)))) (.region [oO 25 (.bin .add .num (tT 11) (kI 1)),
 oM 11 25]))))))) (sQ (.region [oO 6 (.mov kF)]) .ret)))
theorem ok150 : FnOk Tryz.prog 150 26 ir150 [.tmp 6] := Z8 mixed Tryz.func150 (by kernel_rfl) Tryz.ntmps150 (by kernel_rfl) (by kernel_rfl)
def ir151 : ACode := (sQ (.region [oO 6 (.mov kF)]) (sQ (.region [oM 7 2,oO 8 (kC 149 [(tT 7)]),oM 9 8,oT 9 10 (.mov (tT 0)),oT 9 11 (.mov (tT 1)),oT 9 12 (kC 172 [(tT 10),(tT 11)]),oT 9 13 (.mov (tT 2)),
 oT 9 14 (.bin .shr .num (tT 12) (tT 13)),oT 9 15 (.bin .rem .num (tT 14) (.const (.int .u64 2))),oT 9 16 (.bin .eql .num (tT 15) (.const (.int .u64 1))),oO 17 (.pick (tT 9) (tT 16) kF),oM 6 17]) .ret))
theorem ok151 : FnOk Tryz.prog 151 18 ir151 [.tmp 6] := Z8 mixed Tryz.func151 (by kernel_rfl) Tryz.ntmps151 (by kernel_rfl) (by kernel_rfl)
def ir154 : ACode := (sQ (.region [oO 2 (.box (tT 0)),oO 4 (.mov kF)]) (sQ (.region [oO 8 (.load true 1 (tT 2)),oO 9 (kC 183 [(tT 8)]),oM 7 9,oO 10 (.extract (tT 7) 0),oO 11 (.extract (tT 7) 1),oM 5 10,
 oM 6 11]) (sQ (.region [oM 12 6,oM 13 12,oT 13 14 (.mov (tT 5)),oT 13 15 (.mov (tT 1)),oT 13 16 (.bin .gtr .num (tT 14) (tT 15)),oO 17 (.pick (tT 13) (tT 16) kF),oM 4 17]) .ret)))
theorem ok154 : FnOk Tryz.prog 154 18 ir154 [.tmp 4] := Z8 mixed Tryz.func154 (by kernel_rfl) Tryz.ntmps154 (by kernel_rfl) (by kernel_rfl)
def ir155 : ACode := (sQ (.region [oO 4 (.mov (.const (.int .u64 0)))]) (sQ (.region [oO 5 (.mov (.const (.int .u64 0)))]) (sQ (sQ (.region [oO 6 (.mov (kI 1))]) (.block 0 (.loop (sQ (sQ (.region [oM 7 6,
 oO 8 (.bin .lss .num (tT 7) (kI 64))]) (.cond (tT 8) .skip (.exit 0))) (sQ (.block 1 (sQ (.region [oM 11 1,oM 12 6,oO 13 (.bin .shr .num (tT 11) (tT 12)),oO 14 (.bin .rem .num (tT 13) (.const (.int .u64 2))),
 oO 15 (.bin .eql .num (tT 14) (.const (.int .u64 1)))]) (.cond (tT 15) (.region [oM 16 5,oM 17 0,oM 18 6,oO 19 (kC 172 [(tT 17),(tT 18)]),oO 20 (.bin .or .num (tT 16) (tT 19)),oM 5 20]) .skip))) (.region [oM 9 6,
 oO 10 (.bin .add .num (tT 9) (kI 1)),oM 6 10])))))) (sQ (.region [oM 21 5,oM 4 21]) .ret))))
theorem ok155 : FnOk Tryz.prog 155 22 ir155 [.tmp 4] := Z8 mixed Tryz.func155 (by kernel_rfl) Tryz.ntmps155 (by kernel_rfl) (by kernel_rfl)
def ir156 : ACode := (sQ (.region [oO 6 (.mov kF)]) (sQ (.region [oM 13 1,oM 14 2,oO 15 (.build [(.int .i64 0),(.int .i64 0)] [(0,1,(tT 13)),(1,1,(tT 14))]),oO 7 (.alloc [(.int .i64 0),(.int .i64 0)]),
 ⟨none,.store 2 (tT 7) (tT 15),none⟩]) (sQ (sQ (.draw [⟨0,oM 17 0,0,0,false⟩,⟨1,oO 18 (.nilck (tT 17)),1,0,false⟩,⟨2,oO 19 (.faddr 2 (tT 18)),3,0,false⟩,⟨3,oO 20 (.load false 1 (tT 19)),7,0,false⟩,⟨4,oO 21 (.load true 2 (tT 7)),
 0,0,false⟩,⟨5,oO 22 (.lookup (.agg [0,0]) false [(.bool false)] true (tT 20) (tT 21)),31,1,false⟩,⟨6,oM 16 22,63,1,false⟩,⟨7,oO 23 (.extract (tT 16) 0),127,1,false⟩,⟨8,oO 24 (.extract (tT 16) 1),127,1,
 false⟩,⟨9,oM 8 23,255,1,false⟩,⟨10,oM 9 24,1023,1,false⟩]) (sQ (.region [oM 25 9]) (.cond (tT 25) (sQ (.region [oM 26 8,oM 6 26]) .ret) .skip))) (sQ (.region [oO 10 (.mov (.const (.int .i64 (-1))))]) (sQ (sQ (.region [oM 27 0,
 oO 28 (.nilck (tT 27)),oO 29 (.faddr 0 (tT 28)),oO 30 (.load false 1 (tT 29)),oO 31 (.len (tT 30)),oO 32 (.mov (kI 0))]) (.block 0 (.loop (sQ (.region [oO 33 (.bin .lss .num (tT 32) (tT 31))]) (sQ (.cond (tT 33) .skip (.exit 0)) (sQ (.block 1 (sQ (.region [oM 34 32,
 oM 11 34]) (sQ (.region [oM 35 1,oM 36 2,oO 37 (.bin .or .num (tT 35) (tT 36)),oM 38 11,oO 39 (.bin .shr .num (tT 37) (tT 38)),oO 40 (.bin .and .num (tT 39) (kI 1)),oO 41 (.bin .eql .num (tT 40) (kI 0))]) (.cond (tT 41) (.region [oM 42 11,
 oM 10 42]) .skip)))) (.region [oO 43 (.bin .add .num (tT 32) (kI 1)),oM 32 43]))))))) (sQ (.region [oO 12 (.mov kF)]) (sQ (sQ (.region [oM 44 10,oO 45 (.bin .lss .num (tT 44) (kI 0))]) (.cond (tT 45) (.draw [⟨0,
 oM 46 0,0,1,false⟩,⟨1,oO 47 (.nilck (tT 46)),1,1,false⟩,⟨2,oO 48 (.faddr 1 (tT 47)),3,1,false⟩,⟨3,oO 49 (.load false 1 (tT 48)),7,1,false⟩,⟨4,oM 50 0,0,0,false⟩,⟨5,oM 51 1,0,0,false⟩,⟨6,oO 52 (kC 120 [(tT 50),
 (tT 51)]),48,0,false⟩,⟨7,oO 53 (.call (tT 49) [(tT 52)]),127,1,false⟩,⟨8,oM 12 53,255,1,false⟩]) (.region [oM 54 0,oM 55 1,oM 56 10,oO 57 (.bin .shl .num (kI 1) (tT 56)),oO 58 (.bin .or .num (tT 55) (tT 57)),
 oM 59 2,oO 60 (kC 156 [(tT 54),(tT 58),(tT 59)]),oM 61 60,oT 61 62 (.mov (tT 0)),oT 61 63 (.mov (tT 1)),oT 61 64 (.mov (tT 2)),oT 61 65 (.mov (tT 10)),oT 61 66 (.bin .shl .num (kI 1) (tT 65)),oT 61 67 (.bin .or .num (tT 64) (tT 66)),
 oT 61 68 (kC 156 [(tT 62),(tT 63),(tT 67)]),oO 69 (.pick (tT 61) (tT 68) kF),oM 12 69]))) (sQ (.draw [⟨0,oM 70 0,0,0,false⟩,⟨1,oO 71 (.nilck (tT 70)),1,0,false⟩,⟨2,oO 72 (.faddr 2 (tT 71)),3,0,false⟩,⟨3,
 oO 73 (.load false 1 (tT 72)),7,0,false⟩,⟨4,oO 74 (.load true 2 (tT 7)),0,0,false⟩,⟨5,oM 75 12,0,0,false⟩,⟨6,⟨none,.mapset (.agg [0,0]) (tT 73) (tT 74) (tT 75),none⟩,63,1,false⟩]) (sQ (.region [oM 76 12,
 oM 6 76]) .ret)))))))))
theorem ok156 : FnOk Tryz.prog 156 77 ir156 [.tmp 6] := Z8 mixed Tryz.func156 (by kernel_rfl) Tryz.ntmps156 (by kernel_rfl) (by kernel_rfl)
def ir158 : ACode := (sQ (.region [oO 2 (.mov (kI 0))]) (sQ (sQ (.region [oM 3 0]) (.cond (tT 3) (sQ (.region [oO 2 (.mov (kI 1))]) .ret) .skip)) (sQ (.region [oO 2 (.mov (kI 0))]) .ret)))
theorem ok158 : FnOk Tryz.prog 158 4 ir158 [.tmp 2] := Z8 mixed Tryz.func158 (by kernel_rfl) Tryz.ntmps158 (by kernel_rfl) (by kernel_rfl)
def ir159 : ACode := (sQ (.region [oO 1 (.box (tT 0)),oO 2 (.mov (kI 0))]) (sQ (.region [oO 9 (.faddr 0 (tT 1)),oO 10 (.load false 1 (tT 9)),oO 11 (kC 192 [(tT 10)]),oM 8 11,oO 12 (.extract (tT 8) 0),oO 13 (.extract (tT 8) 1),
 oO 14 (.extract (tT 8) 2),oM 3 12,oM 4 13,oM 5 14]) (sQ (sQ (.region [oO 15 (.faddr 0 (tT 1)),oO 16 (.load false 1 (tT 15)),oO 17 (.bin .lss .num (tT 16) (.const (.int .u8 1))),oM 18 17,oF 18 19 (.faddr 0 (tT 1)),
 oF 18 20 (.load false 1 (tT 19)),oF 18 21 (.bin .gtr .num (tT 20) (.const (.int .u8 16))),oO 22 (.pick (tT 18) kT (tT 21)),oM 23 22,oF 23 24 (.faddr 3 (tT 1)),oF 23 25 (.load false 1 (tT 24)),oF 23 26 (.len (tT 25)),
 oF 23 27 (.mov (tT 3)),oF 23 28 (.bin .neq .num (tT 26) (tT 27)),oO 29 (.pick (tT 23) kT (tT 28))]) (.cond (tT 29) (sQ (.region [oO 2 (.mov (kI 1))]) .ret) .skip)) (sQ (sQ (.region [oO 30 (.faddr 0 (tT 1)),
 oO 31 (.load false 1 (tT 30)),oO 32 (.bin .neq .num (tT 31) (.const (.int .u8 1))),oM 33 32,oT 33 34 (.faddr 1 (tT 1)),oT 33 35 (.load false 1 (tT 34)),oT 33 36 (.bin .neq .num (tT 35) (kI 0)),oO 37 (.pick (tT 33) (tT 36) kF),
 oM 38 37,oF 38 39 (.faddr 2 (tT 1)),oF 38 40 (.load false 1 (tT 39)),oF 38 41 (.len (tT 40)),oF 38 42 (.mov (tT 4)),oF 38 43 (.bin .lss .num (tT 41) (tT 42)),oO 44 (.pick (tT 38) kT (tT 43)),oM 45 44,oF 45 46 (.faddr 2 (tT 1)),
 oF 45 47 (.load false 1 (tT 46)),oF 45 48 (.len (tT 47)),oF 45 49 (.mov (tT 5)),oF 45 50 (.bin .gtr .num (tT 48) (tT 49)),oO 51 (.pick (tT 45) kT (tT 50))]) (.cond (tT 51) (sQ (.region [oO 2 (.mov (kI 6))]) .ret) .skip)) (sQ (sQ (.region [oO 52 (.faddr 1 (tT 1)),
 oO 53 (.load false 1 (tT 52)),oO 54 (.bin .lss .num (tT 53) (kI 0)),oM 55 54,oF 55 56 (.faddr 1 (tT 1)),oF 55 57 (.load false 1 (tT 56)),oF 55 58 (.bin .gtr .num (tT 57) (kI 999999)),oO 59 (.pick (tT 55) kT (tT 58))]) (.cond (tT 59) (sQ (.region [oO 2 (.mov (kI 2))]) .ret) .skip)) (sQ (sQ (.region [oO 60 (.faddr 2 (tT 1)),
 oO 61 (.load false 1 (tT 60)),oO 62 (.len (tT 61)),oO 63 (.mov (kI 0))]) (.block 0 (.loop (sQ (.region [oO 64 (.bin .lss .num (tT 63) (tT 62))]) (sQ (.cond (tT 64) .skip (.exit 0)) (sQ (.block 1 (sQ (.region [oO 65 (.iaddr 1 (tT 61) (tT 63)),
 oO 66 (.load false 1 (tT 65)),oM 7 66]) (sQ (.region [oM 67 7,oO 68 (.bin .lss .num (tT 67) (kI 1)),oM 69 68,oF 69 70 (.mov (tT 7)),oF 69 71 (.bin .gtr .num (tT 70) (kI 63)),oO 72 (.pick (tT 69) kT (tT 71))]) (.cond (tT 72) (sQ (.region [oO 2 (.mov (kI 2))]) .ret) .skip)))) (.region [oO 73 (.bin .add .num (tT 63) (kI 1)),
 oM 63 73]))))))) (sQ (sQ (.draw [⟨0,oO 74 (.faddr 2 (tT 1)),0,0,false⟩,⟨1,oO 75 (.load false 1 (tT 74)),1,0,false⟩,⟨2,oO 76 (kC 48 [(tT 75)]),3,0,false⟩,⟨3,oO 77 (kC 24 [(tT 76)]),7,0,false⟩,⟨4,oO 78 (.faddr 2 (tT 1)),
 0,0,false⟩,⟨5,oO 79 (.load false 1 (tT 78)),16,0,false⟩,⟨6,oO 80 (.len (tT 79)),48,0,false⟩,⟨7,oO 81 (.bin .neq .num (tT 77) (tT 80)),127,1,false⟩]) (.cond (tT 81) (sQ (.region [oO 2 (.mov (kI 5))]) .ret) .skip)) (sQ (.region [oO 2 (.mov (kI 0))]) .ret))))))))
theorem ok159 : FnOk Tryz.prog 159 82 ir159 [.tmp 2] := Z8 mixed Tryz.func159 (by kernel_rfl) Tryz.ntmps159 (by kernel_rfl) (by kernel_rfl)
def ir161 : ACode := (sQ (.region [oO 4 (.mov (kI 0))]) (sQ (sQ (.region [oM 6 0,oO 7 (.len (tT 6)),oO 8 (.mov (kI 0))]) (.block 0 (.loop (sQ (.region [oO 9 (.bin .lss .num (tT 8) (tT 7))]) (sQ (.cond (tT 9) .skip (.exit 0)) (sQ (.block 1 (sQ (.region [oM 10 8,
 oM 5 10]) (sQ (.region [oM 11 1,oM 12 0,oM 13 5,oO 14 (.iaddr 1 (tT 12) (tT 13)),oO 15 (.load false 1 (tT 14)),oO 16 (.bin .eql .num (tT 11) (tT 15))]) (.cond (tT 16) (sQ (.region [oM 17 5,oM 4 17]) .ret) .skip)))) (.region [oO 18 (.bin .add .num (tT 8) (kI 1)),
 oM 8 18]))))))) (sQ (.region [oO 4 (.mov (.const (.int .i64 (-1))))]) .ret)))
theorem ok161 : FnOk Tryz.prog 161 19 ir161 [.tmp 4] := Z8 mixed Tryz.func161 (by kernel_rfl) Tryz.ntmps161 (by kernel_rfl) (by kernel_rfl)
def ir165 : ACode := (sQ (.region [oO 2 (.mov (kI 0))]) (sQ (sQ (.region [oM 3 0,oO 4 (.bin .eql .ptr (tT 3) (.const (.pointer none)))]) (.cond (tT 4) (sQ (.region [oO 2 (.mov (kI 0))]) .ret) .skip)) (sQ (.region [oM 5 0,
 oO 6 (.nilck (tT 5)),oO 7 (.faddr 0 (tT 6)),oO 8 (.load false 1 (tT 7)),oO 9 (.len (tT 8)),oM 2 9]) .ret)))
theorem ok165 : FnOk Tryz.prog 165 10 ir165 [.tmp 2] := Z8 mixed Tryz.func165 (by kernel_rfl) Tryz.ntmps165 (by kernel_rfl) (by kernel_rfl)
def ir167 : ACode := (sQ (.region [oO 3 (.box (tT 1)),oO 4 (.mov (kI 0))]) (sQ (sQ (.region [oM 6 0,oO 7 (.len (tT 6)),oO 8 (.mov (kI 0))]) (.block 0 (.loop (sQ (.region [oO 9 (.bin .lss .num (tT 8) (tT 7))]) (sQ (.cond (tT 9) .skip (.exit 0)) (sQ (.block 1 (sQ (.region [oM 10 8,
 oM 5 10]) (sQ (.draw [⟨0,oO 11 (.load true 2 (tT 3)),0,0,false⟩,⟨1,oM 12 0,0,0,false⟩,⟨2,oM 13 5,0,0,false⟩,⟨3,oO 14 (.iaddr 2 (tT 12) (tT 13)),6,0,false⟩,⟨4,oO 15 (.load true 2 (tT 14)),14,0,false⟩,⟨5,
 oO 16 (.bin .eql (.cells [0,0]) (tT 11) (tT 15)),31,1,false⟩]) (.cond (tT 16) (sQ (.region [oM 17 5,oM 4 17]) .ret) .skip)))) (.region [oO 18 (.bin .add .num (tT 8) (kI 1)),oM 8 18]))))))) (sQ (.region [oO 4 (.mov (.const (.int .i64 (-1))))]) .ret)))
theorem ok167 : FnOk Tryz.prog 167 19 ir167 [.tmp 4] := Z8 mixed Tryz.func167 (by kernel_rfl) Tryz.ntmps167 (by kernel_rfl) (by kernel_rfl)
def ir168 : ACode := (sQ (.region [oO 2 (.mov (.const nS))]) (sQ (sQ (.region [oM 3 0,oO 4 (.isnil false (tT 3))]) (.cond (tT 4) (sQ (.region [oO 2 (.mov (.const nS))]) .ret) .skip)) (sQ (.region [oO 5 (.bslice [(.int .i64 0),
 (.int .i64 0)] 0 []),oM 6 0,oO 7 (.append [(.int .i64 0),(.int .i64 0)] 16 (tT 5) (tT 6)),oM 2 7]) .ret)))
theorem ok168 : FnOk Tryz.prog 168 8 ir168 [.tmp 2] := Z8 mixed Tryz.func168 (by kernel_rfl) Tryz.ntmps168 (by kernel_rfl) (by kernel_rfl)
def ir171 : ACode := (sQ (.region [oO 8 (.alloc [(.int .i64 0),(.int .i64 0),nS,nS])]) (sQ (.region [oM 15 0,oO 16 (kC 147 [(tT 15)]),oM 9 16]) (sQ (sQ (.region [oM 17 1,oO 18 (.bin .gtr .num (tT 17) (kI 1)),
 oM 19 18,oT 19 20 (.mov (tT 9)),oT 19 21 (.bin .rem .num (tT 20) (kI 3)),oT 19 22 (.bin .eql .num (tT 21) (kI 2)),oO 23 (.pick (tT 19) (tT 22) kF)]) (.cond (tT 23) (sQ (.region [oM 24 0,oM 25 1,oO 26 (.bin .sub .num (tT 25) (kI 1)),
 oM 27 2,oM 28 3,oO 29 (kC 171 [(tT 24),(tT 26),(tT 27),(tT 28)]),oO 10 (.alloc [(.int .i64 0),(.int .i64 0),nS,nS]),⟨none,.store 4 (tT 10) (tT 29),none⟩]) (sQ (.region [oM 30 0,oM 31 1,oO 32 (.bin .sub .num (tT 31) (kI 1)),
 oM 33 2,oM 34 3,oO 35 (kC 171 [(tT 30),(tT 32),(tT 33),(tT 34)]),oO 11 (.alloc [(.int .i64 0),(.int .i64 0),nS,nS]),⟨none,.store 4 (tT 11) (tT 35),none⟩]) (sQ (.region [oO 36 (.load true 4 (tT 10)),oO 37 (.load true 4 (tT 11)),
 oO 38 (.bslice [(.int .i64 0),(.int .i64 0),nS,nS] 2 [(0,(tT 36)),(1,(tT 37))]),oO 39 (.build [(.int .i64 0),(.int .i64 0),nS,nS] [(0,1,(kI 16)),(3,1,(tT 38))]),⟨none,.store 4 (tT 8) (tT 39),none⟩]) .ret))) .skip)) (sQ (sQ (.region [oM 40 9,
 oO 41 (.bin .rem .num (tT 40) (kI 3)),oO 42 (.bin .eql .num (tT 41) (kI 0))]) (.cond (tT 42) (sQ (.region [oM 43 9,oO 44 (.bin .quo .num (tT 43) (kI 3)),oO 45 (.bin .rem .num (tT 44) (kI 4)),oO 46 (.build [(.int .i64 0),
 (.int .i64 0),nS,nS] [(0,1,(kI 1)),(1,1,(tT 45))]),⟨none,.store 4 (tT 8) (tT 46),none⟩]) .ret) .skip)) (sQ (sQ (.region [oM 47 2,oO 48 (.bin .eql .num (tT 47) (kI 3))]) (.cond (tT 48) (sQ (.region [oM 49 9,
 oO 50 (.bin .quo .num (tT 49) (kI 3)),oM 51 3,oO 52 (.bin .rem .num (tT 50) (tT 51)),oO 53 (.bin .add .num (kI 1) (tT 52)),oO 54 (.bslice [(.int .i64 0)] 1 [(0,(tT 53))]),oO 55 (.build [(.int .i64 0),(.int .i64 0),
 nS,nS] [(0,1,(kI 6)),(2,1,(tT 54))]),⟨none,.store 4 (tT 8) (tT 55),none⟩]) .ret) .skip)) (sQ (.region [oO 56 (.build [(.int .i64 0),(.int .i64 0),nS,nS] [(0,1,(kI 5))]),oO 12 (.alloc [(.int .i64 0),(.int .i64 0),
 nS,nS]),⟨none,.store 4 (tT 12) (tT 56),none⟩]) (sQ (.region [oM 57 0,oO 58 (kC 147 [(tT 57)]),oM 13 58]) (sQ (sQ (.region [oO 14 (.mov (kI 1))]) (.block 0 (.loop (sQ (sQ (.region [oM 59 14,oM 60 3,oO 61 (.bin .leq .num (tT 59) (tT 60))]) (.cond (tT 61) .skip (.exit 0))) (sQ (.block 1 (sQ (.region [oM 64 13,
 oM 65 14,oO 66 (.bin .sub .num (tT 65) (kI 1)),oO 67 (.bin .shr .num (tT 64) (tT 66)),oO 68 (.bin .rem .num (tT 67) (kI 2)),oO 69 (.bin .eql .num (tT 68) (kI 1))]) (.cond (tT 69) (.region [oO 70 (.faddr 2 (tT 12)),
 oO 71 (.load false 1 (tT 70)),oM 72 14,oO 73 (.bslice [(.int .i64 0)] 1 [(0,(tT 72))]),oO 74 (.append [(.int .i64 0)] 8 (tT 71) (tT 73)),oO 75 (.faddr 2 (tT 12)),⟨none,.store 1 (tT 75) (tT 74),none⟩]) .skip))) (.region [oM 62 14,
 oO 63 (.bin .add .num (tT 62) (kI 1)),oM 14 63])))))) (sQ (sQ (.region [oO 76 (.faddr 2 (tT 12)),oO 77 (.load false 1 (tT 76)),oO 78 (.len (tT 77)),oO 79 (.bin .eql .num (tT 78) (kI 0))]) (.cond (tT 79) (.region [oM 80 9,
 oO 81 (.bin .quo .num (tT 80) (kI 3)),oM 82 3,oO 83 (.bin .rem .num (tT 81) (tT 82)),oO 84 (.bin .add .num (kI 1) (tT 83)),oO 85 (.bslice [(.int .i64 0)] 1 [(0,(tT 84))]),oO 86 (.faddr 2 (tT 12)),⟨none,
 .store 1 (tT 86) (tT 85),none⟩]) .skip)) (sQ (.region [oO 87 (.load true 4 (tT 12)),⟨none,.store 4 (tT 8) (tT 87),none⟩]) .ret))))))))))
theorem ok171 : FnOk Tryz.prog 171 88 ir171 [.cell 8 true 4] := Z8 mixed Tryz.func171 (by kernel_rfl) Tryz.ntmps171 (by kernel_rfl) (by kernel_rfl)
def ir172 : ACode := (sQ (.region [oO 4 (.mov (.const (.int .u64 0)))]) (sQ (sQ (.region [oM 9 1,oO 10 (kC 149 [(tT 9)]),oO 11 (.una .not (tT 10))]) (.cond (tT 11) (sQ (.region [oO 4 (.mov (.const (.int .u64 0)))]) .ret) .skip)) (sQ (.region [oM 12 1,
 oO 13 (.bin .shl .num (.const (.int .u64 1)) (tT 12)),oM 5 13]) (.block 0 (.loop (.block 1 (sQ (.region [oM 14 5,oM 6 14]) (sQ (sQ (.region [oM 15 0,oO 16 (.len (tT 15)),oO 17 (.mov (kI 0))]) (.block 2 (.loop (sQ (.region [oO 18 (.bin .lss .num (tT 17) (tT 16))]) (sQ (.cond (tT 18) .skip (.exit 2)) (sQ (.block 3 (sQ (.region [oO 19 (.iaddr 2 (tT 15) (tT 17)),
 oO 20 (.load true 2 (tT 19)),oO 8 (.alloc [(.int .i64 0),(.int .i64 0)]),⟨none,.store 2 (tT 8) (tT 20),none⟩]) (sQ (.region [oM 21 5,oO 22 (.iaddrA 2 1 (tT 8) (kI 0)),oO 23 (.load false 1 (tT 22)),oO 24 (.bin .shr .num (tT 21) (tT 23)),
 oO 25 (.bin .rem .num (tT 24) (.const (.int .u64 2))),oO 26 (.bin .eql .num (tT 25) (.const (.int .u64 1)))]) (.cond (tT 26) (.region [oM 27 6,oO 28 (.iaddrA 2 1 (tT 8) (kI 1)),oO 29 (.load false 1 (tT 28)),
 oO 30 (.bin .shl .num (.const (.int .u64 1)) (tT 29)),oO 31 (.bin .or .num (tT 27) (tT 30)),oM 6 31]) .skip)))) (.region [oO 32 (.bin .add .num (tT 17) (kI 1)),oM 17 32]))))))) (sQ (sQ (.region [oM 33 6,
 oM 34 5,oO 35 (.bin .eql .num (tT 33) (tT 34))]) (.cond (tT 35) (sQ (.region [oM 36 5,oM 4 36]) .ret) .skip)) (.region [oM 37 6,oM 5 37]))))))))))
theorem ok172 : FnOk Tryz.prog 172 38 ir172 [.tmp 4] := Z8 mixed Tryz.func172 (by kernel_rfl) Tryz.ntmps172 (by kernel_rfl) (by kernel_rfl)
set_option maxRecDepth 100000
def ir182 : ACode := (sQ (.region [oO 2 (.mov (kI 0))]) (sQ (sQ (.region [oM 3 0,oO 4 (.bin .geq .num (tT 3) (.const (.int .u64 4294967296)))]) (.cond (tT 4) (sQ (.region [oM 5 0,oO 6 (.bin .shr .num (tT 5) (.const (.int .u64 32))),
 oM 0 6]) (.region [oO 2 (.mov (kI 32))])) .skip)) (sQ (sQ (.region [oM 7 0,oO 8 (.bin .geq .num (tT 7) (.const (.int .u64 65536)))]) (.cond (tT 8) (sQ (.region [oM 9 0,oO 10 (.bin .shr .num (tT 9) (.const (.int .u64 16))),
 oM 0 10]) (.region [oM 11 2,oO 12 (.bin .add .num (tT 11) (kI 16)),oM 2 12])) .skip)) (sQ (sQ (.region [oM 13 0,oO 14 (.bin .geq .num (tT 13) (.const (.int .u64 256)))]) (.cond (tT 14) (sQ (.region [oM 15 0,
 oO 16 (.bin .shr .num (tT 15) (.const (.int .u64 8))),oM 0 16]) (.region [oM 17 2,oO 18 (.bin .add .num (tT 17) (kI 8)),oM 2 18])) .skip)) (sQ (.region [oM 19 2,oM 20 0,oO 21 (.conv .u8 (tT 20)),⟨(some 22),
 .indexS (.const (.string ⟨#[0,1,2,2,3,3,3,3,4,4,4,4,4,4,4,4,5,5,5,5,5,5,5,5,5,5,5,5,5,5,5,5,6,6,6,6,6,6,6,6,6,6,6,6,6,6,6,6,6,6,6,6,6,6,6,6,6,6,6,6,6,6,6,6,7,7,7,7,7,7,7,7,7,7,7,7,7,7,7,7,7,7,7,7,7,7,7,
 7,7,7,7,7,7,7,7,7,7,7,7,7,7,7,7,7,7,7,7,7,7,7,7,7,7,7,7,7,7,7,7,7,7,7,7,7,7,7,7,7,8,8,8,8,8,8,8,8,8,8,8,8,8,8,8,8,8,8,8,8,8,8,8,8,8,8,8,8,8,8,8,8,8,8,8,8,8,8,8,8,8,8,8,8,8,8,8,8,8,8,8,8,8,8,8,8,8,8,8,8,
 8,8,8,8,8,8,8,8,8,8,8,8,8,8,8,8,8,8,8,8,8,8,8,8,8,8,8,8,8,8,8,8,8,8,8,8,8,8,8,8,8,8,8,8,8,8,8,8,8,8,8,8,8,8,8,8,8,8,8,8,8,8,8,8,8,8,8,8]⟩)) (tT 21),none⟩,oO 23 (.conv .i64 (tT 22)),oO 24 (.bin .add .num (tT 19) (tT 23)),
 oM 2 24]) .ret)))))
theorem ok182 : FnOk Tryz.prog 182 25 ir182 [.tmp 2] := Z8 mixed Tryz.func182 (by kernel_rfl) Tryz.ntmps182 (by kernel_rfl) (by kernel_rfl)
def ir183 : ACode := (sQ (.region [oO 1 (.box (tT 0)),oO 2 (.mov (kI 0)),oO 3 (.mov kF)]) (sQ (sQ (.region [oO 5 (.load true 1 (tT 1)),oO 6 (kC 22 [(tT 5)])]) (.cond (tT 6) (sQ (.region [oO 2 (.mov (kI 0)),
 oO 3 (.mov kF)]) .ret) .skip)) (sQ (.region [oO 7 (.faddr 0 (tT 1)),oO 8 (.load false 1 (tT 7)),oO 9 (.len (tT 8)),oO 10 (.bin .sub .num (tT 9) (kI 1)),oM 4 10]) (sQ (.region [oM 11 4,oO 12 (.bin .mul .num (kI 64) (tT 11)),
 oO 13 (.faddr 0 (tT 1)),oO 14 (.load false 1 (tT 13)),oM 15 4,oO 16 (.iaddr 1 (tT 14) (tT 15)),oO 17 (.load false 1 (tT 16)),oO 18 (kC 182 [(tT 17)]),oO 19 (.bin .add .num (tT 12) (tT 18)),oO 20 (.bin .sub .num (tT 19) (kI 1)),
 oM 2 20,oO 3 (.mov kT)]) .ret))))
theorem ok183 : FnOk Tryz.prog 183 21 ir183 [.tmp 2, .tmp 3] := Z8 mixed Tryz.func183 (by kernel_rfl) Tryz.ntmps183 (by kernel_rfl) (by kernel_rfl)
def ir192 : ACode := (sQ (.region [oO 2 (.mov (kI 0)),oO 3 (.mov (kI 0)),oO 4 (.mov (kI 0))]) (sQ (.block 0 (sQ (.region [oM 6 0,oO 7 (.bin .geq .num (tT 6) (.const (.int .u8 8))),oM 5 7]) (.cond (tT 5) (sQ (.region [oO 2 (.mov (kI 2)),
 oO 3 (.mov (kI 0)),oO 4 (.mov (kI 0))]) .ret) (sQ (.region [oM 9 0,oO 10 (.bin .eql .num (tT 9) (.const (.int .u8 7))),oM 8 10]) (.cond (tT 8) (sQ (.region [oO 2 (.mov (kI 1)),oO 3 (.mov (kI 0)),oO 4 (.mov (kI 0))]) .ret) (sQ (.region [oM 12 0,
 oO 13 (.bin .eql .num (tT 12) (.const (.int .u8 4))),oM 14 13,oF 14 15 (.mov (tT 0)),oF 14 16 (.bin .eql .num (tT 15) (.const (.int .u8 6))),oO 17 (.pick (tT 14) kT (tT 16)),oM 11 17]) (.cond (tT 11) (sQ (.region [oO 2 (.mov (kI 0)),
 oO 3 (.mov (kI 1)),oO 4 (.mov (kI 1))]) .ret) (sQ (.region [oM 19 0,oO 20 (.bin .eql .num (tT 19) (.const (.int .u8 5))),oM 18 20]) (.cond (tT 18) (sQ (.region [oO 2 (.mov (kI 0)),oO 3 (.mov (kI 1)),oO 4 (.mov (kI 8))]) .ret) .skip))))))))) (sQ (.region [oO 2 (.mov (kI 0)),
 oO 3 (.mov (kI 0)),oO 4 (.mov (kI 0))]) .ret)))
theorem ok192 : FnOk Tryz.prog 192 21 ir192 [.tmp 2, .tmp 3, .tmp 4] := Z8 mixed Tryz.func192 (by kernel_rfl) Tryz.ntmps192 (by kernel_rfl) (by kernel_rfl)
end Go.Proofs.YtjpkfigmmmngnaaGreatDoor
namespace Go.Proofs.YtjpkfigmmmngnaaGreatDoor
open Go.RowKit
attribute [local irreducible] aw opsK dK
def nums (l:List Int):List (List PV):=l.map fun x => [.val (.int .i64 x)]
def words (l:List Nat):List (List PV):=l.map fun (x:Nat) => [.val (.int .u64 (x:Int))]
def setP (l:List Nat):PV:=.agg [.vec (words l) false]
theorem Z29 {α:Type} (l:List α) (g:α→List PV) (hg:∀ x∈l,pureL (g x)):pureLL (l.map g):=by
 refine (Z1W _ _).2 fun p hp=>?_; obtain⟨x,hx,rfl⟩:=List.mem_map.1 hp; exact hg x hx
theorem Z2H (l:List Nat):(setP l).pure:=⟨Z29 _ _ fun _ _=>⟨trivial,trivial⟩,trivial⟩
theorem Zb (l:List Nat):pureLL (words l):=Z29 _ _ fun _ _=>⟨trivial,trivial⟩
def IsTrim (l:List Nat) (r:PV):Prop:=∃ k,k≤l.length∧(∀ j,k≤j→l.getD j 0=0)∧(k=0 ∨ l.getD (k-1) 0≠0)∧r=setP (l.take k)
theorem Z2U (k:Nat) (h:k≤9223372036854775807):IntKind.i64.wrap (k:Int)=k:=IntWalk.i64_in _ ⟨by omega,by omega⟩
theorem Z2I (l:List Nat):Spec Tryz.prog 69 [.vec (words l) false] (IsTrim l):=by
 refine Z3 ok69 (Nat.le_of_ble_eq_true rfl) fun C hC=>?_
 refine Z37 (k:=0) rfl fun hmax=>?_
 have hlm:l.length≤maxVec:=by simpa [words] using hmax
 refine Zm ?_
 refine Za ?_
 refine go ?_
 refine Z4n (fun k=>k≤l.length∧∀ j,k≤j→l.getD j 0=0) id (fun k => [(0,.vec (words (l.take k)) false),(2,.ptr 0 0 0)]) l.length ⟨Nat.le_refl _,fun j hj=>by simp [List.getD_eq_getElem?_getD,hj]⟩ ⟨by rw [List.take_length]; rfl,rfl,trivial⟩ ?_
 rintro k ⟨hk,hzero⟩
 have hlen:(words (l.take k)).length=k:=by simp [words,hk]
 have hkm:k≤maxVec:=by omega
 (refine go ?_;repeat' (apply B<;>intro hb<;>try cases hb))
 · -- the last word
   have hpos:0<k:=by simpa [hlen] using hb
   have hsub:IntKind.i64.wrap (((words (l.take k)).length:Int)-1)=((k-1:Nat):Int):=by
    rw [hlen,show (k:Int)-1=((k-1:Nat):Int) by omega]; exact Z2U _ (by simp only [maxVec] at hkm;omega)
   refine Z77 (xs:=l.take k) rfl rfl (k-1) hsub (by simp;omega) rfl rfl ?_
   have hget : (l.take k)[k - 1]'(by simp;omega) = l.getD (k - 1) 0 := by
    simp [List.getD_eq_getElem?_getD,show k-1<l.length by omega]
   rw [hget]
   (refine go ?_;repeat' (apply B<;>intro hb<;>try cases hb))
   · refine Zfe (xs := l.take k) rfl 0 (k - 1) rfl (by show some _ = some _; rw [hsub]) (by omega) (by simp; omega) (fun _ => rfl) rfl ?_
     (refine go ?_;repeat' (apply B<;>intro hb<;>try cases hb))
     refine⟨k-1,⟨by omega,fun j hj=>?_⟩,by simp; omega,rfl,rfl,⟨?_,rfl,trivial⟩⟩
     · by_cases hjk : j = k - 1
       · subst hjk; simpa using hb
       · exact hzero j (by omega)
     · show some (PV.vec (words (((l.take k).take (k - 1)).drop 0)) false) = _
       rw [List.drop_zero,List.take_take,Nat.min_eq_left (by omega)]
   · refine Z5 rfl (Z2H (l.take k)) ⟨k, hk, hzero, .inr ?_, rfl⟩
     intro h0
     rw [h0] at hb
     simp at hb
 · refine Z5 rfl (Z2H (l.take k)) ⟨k, hk, hzero, .inl ?_, rfl⟩
   simpa [hlen] using hb
theorem Z13 (l:List Nat) (k:Nat):Spec Tryz.prog 67 [setP l,.val (.int .i64 k)] (· = .val (.int .u64 (l.getD k 0:Nat))):=by
 refine Z3 ok67 (Nat.le_of_ble_eq_true rfl) fun C hC=>?_
 refine Zm ?_
 refine Za ?_
 refine Z6 rfl rfl rfl ?_
 (refine go ?_;repeat' (apply B<;>intro hb<;>try cases hb))
 · have hk : k < l.length := by simpa [words] using hb
   refine Z77 (xs:=l) rfl rfl k rfl hk rfl rfl ?_
   (refine go ?_;repeat' (apply B<;>intro hb<;>try cases hb))
   exact Z5 rfl trivial (by simp [List.getD_eq_getElem?_getD,hk])
 · have hk : l.length ≤ k := by simpa [words] using hb
   exact Z5 rfl trivial (by simp [List.getD_eq_getElem?_getD,hk,pvOf])
def ofW:List Nat→Nat
 | []=>0
 | x :: r=>x+18446744073709551616*ofW r
def Words (l:List Nat):Prop:=∀ x∈l,x<18446744073709551616
theorem Words.getD {l:List Nat} (h:Words l) (k:Nat):l.getD k 0<18446744073709551616:=by
 rw [List.getD_eq_getElem?_getD]
 cases hk:l[k]? with
 | none=>simp
 | some x=>exact h x (List.mem_of_getElem? hk)
theorem Z2f:∀ {l:List Nat},Words l→∀ i,(ofW l).testBit i=(l.getD (i / 64) 0).testBit (i % 64)
 | [],_,i=>by simp [ofW]
 | x :: r, h, i => by
   have hx:x<2 ^ 64:=h x (by simp)
   have hr:Words r:=fun y hy=>h y (by simp [hy])
   have he:ofW (x :: r)=2 ^ 64*ofW r+x:=by simp only [ofW]; omega
   rw [he,Nat.testBit_two_pow_mul_add _ hx]
   by_cases hi:i<64
   · rw [if_pos hi,Nat.div_eq_of_lt hi,Nat.mod_eq_of_lt hi]; rfl
   · rw [if_neg hi, Z2f hr]
     have h1:i / 64=(i-64) / 64+1:=by omega
     have h2:(i-64) % 64=i % 64:=by omega
     rw [h1,h2]
     rfl
theorem Z5D:∀ {l:List Nat},(∀ j,l.getD j 0=0)→ofW l=0
 | [],_=>rfl
 | x :: r, h => by
   have h0:x=0:=h 0
   have hr:ofW r=0:=Z5D fun j=>h (j+1)
   simp [ofW,h0,hr]
theorem Zbc:∀ {l:List Nat} {k:Nat},(∀ j,k≤j→l.getD j 0=0)→ofW (l.take k)=ofW l
 | [],k,_=>by simp
 | x :: r,0,h=>by simp only [List.take_zero]; exact (Z5D fun j=>h j (Nat.zero_le _)).symm
 | x :: r, k + 1, h => by
   simp only [List.take_succ_cons,ofW]
   rw [Zbc (l:=r) (k:=k) fun j hj=>h (j+1) (by omega)]
def digs (N:Nat):List Nat:=if h:N=0 then [] else N % 18446744073709551616 :: digs (N / 18446744073709551616)
termination_by N
decreasing_by omega
theorem Zx:digs 0 = []:=by rw [digs]; simp
theorem Z2o {N:Nat} (h:N≠0):digs N=N % 18446744073709551616 :: digs (N / 18446744073709551616):=by rw [digs]; simp [h]
theorem Z1L (N:Nat):Words (digs N):=by
 induction N using Nat.strongRecOn with
 | _ N ih =>
   by_cases h:N=0
   · rw [h,Zx]; intro x hx; cases hx
   · rw [Z2o h]
     intro x hx
     rcases List.mem_cons.1 hx with rfl|hx
     · omega
     · exact ih _ (by omega) x hx
theorem Z5E (N:Nat):ofW (digs N)=N:=by
 induction N using Nat.strongRecOn with
 | _ N ih =>
   by_cases h:N=0
   · rw [h,Zx]; rfl
   · rw [Z2o h,ofW,ih _ (by omega)]; omega
def Canon (l:List Nat):Prop:=l.length=0 ∨ l.getD (l.length-1) 0≠0
theorem Zbd:∀ {l:List Nat},Words l→Canon l→digs (ofW l)=l
 | [],_,_=>by simp [ofW,Zx]
 | x :: r, h, hc => by
   have hx:x<18446744073709551616:=h x (by simp)
   have hr:Words r:=fun y hy=>h y (by simp [hy])
   have hcr:Canon r:=by
    cases r with
    | nil=>exact .inl rfl
    | cons y s => refine .inr ?_; rcases hc with hc | hc
                  · simp at hc
                  · simpa using hc
   have ih:=Zbd hr hcr
   have hne:ofW (x :: r)≠0:=by
    simp only [ofW]
    cases r with
    | nil => rcases hc with hc | hc
             · simp at hc
             · simp at hc; simp [ofW]; exact hc
    | cons y s =>
      have:ofW (y :: s)≠0:=fun h0=>by rw [h0,Zx] at ih; cases ih
      omega
   have h1:ofW (x :: r) % 18446744073709551616=x:=by simp only [ofW]; omega
   have h2:ofW (x :: r) / 18446744073709551616=ofW r:=by simp only [ofW]; omega
   rw [Z2o hne,h1,h2,ih]
def setN (N:Nat):PV:=setP (digs N)
theorem Z0 (N:Nat):(setN N).pure:=Z2H _
theorem Zbe {l:List Nat} (h:Words l) (hc:Canon l):setP l=setN (ofW l):=by rw [setN,Zbd h hc]
theorem IsTrim.set {l:List Nat} (hl:Words l) {r:PV} (h:IsTrim l r):r=setN (ofW l):=by
 obtain⟨k,hk,hz,hn,rfl⟩:=h
 rw [← Zbc hz]
 refine Zbe (fun x hx=>hl x (List.mem_of_mem_take hx)) ?_
 rcases hn with rfl|hn
 · exact .inl (by simp)
 · by_cases h0 : k = 0
   · subst h0; exact .inl (by simp)
   · refine .inr ?_
     have e:(l.take k).length=k:=by simp [hk]
     rw [e]
     simpa [List.getD_eq_getElem?_getD,List.getElem?_take,show k-1<k by omega] using hn
theorem Z8L (l:List Nat) (k v:Nat):(words l).set k [.val (.int .u64 (v:Int))]=words (l.set k v):=by simp [words,List.map_set]
theorem Words.set {l:List Nat} (h:Words l) (k:Nat) {v:Nat} (hv:v<18446744073709551616):Words (l.set k v):=fun x hx=>by
 rcases List.mem_or_eq_of_mem_set hx with hx|rfl
 · exact h x hx
 · exact hv
theorem Zgk {l:List Nat} (h:Words l) {k j:Nat} (hk:k<l.length) (hj:j<64):ofW (l.set k (l.getD k 0 ||| 2 ^ j))=ofW l ||| 2 ^ (64*k+j):=by
 have hv:l.getD k 0 ||| 2 ^ j<18446744073709551616:=Nat.or_lt_two_pow (n:=64) (h.getD k) (Nat.pow_lt_pow_right (by omega) hj)
 refine Nat.eq_of_testBit_eq fun i=>?_
 rw [Z2f (h.set k hv),Nat.testBit_or,Z2f h,Nat.testBit_two_pow]
 by_cases hik:i / 64=k
 · subst hik
   have:(l.set (i / 64) (l.getD (i / 64) 0 ||| 2 ^ j)).getD (i / 64) 0=l.getD (i / 64) 0 ||| 2 ^ j:=by simp [List.getD_eq_getElem?_getD,hk]
   rw [this,Nat.testBit_or,Nat.testBit_two_pow]
   congr 1
   rw [decide_eq_decide]
   omega
 · have : (l.set k (l.getD k 0 ||| 2 ^ j)).getD (i / 64) 0 = l.getD (i / 64) 0 := by
    simp only [List.getD_eq_getElem?_getD,List.getElem?_set,if_neg (Ne.symm hik)]
   rw [this]
   have:¬ (64*k+j=i):=by omega
   simp [this]
def maskTo (top:Int) (l:List Int):Nat:=l.foldl (fun acc i=>if 0≤i∧i≤top then acc ||| 2 ^ i.toNat else acc) 0
def topOf (l:List Int):Int:=l.foldl (fun t i=>if i≤4095 then (if i>t then i else t) else t) (-1)
theorem Z78 {l:List Int} {i:Nat} (hi:i<l.length):topOf (l.take (i+1))=if l[i]≤4095 then (if l[i]>topOf (l.take i) then l[i] else topOf (l.take i)) else topOf (l.take i):=by
 simp only [topOf,List.take_add_one,List.getElem?_eq_getElem hi,Option.toList_some,List.foldl_append,List.foldl_cons,List.foldl_nil]
 rfl
theorem topOf_take' {l:List Int} {i:Nat} (hi:i<l.length) (h:l[i]≤4095):topOf (l.take (i+1))=if l[i]>topOf (l.take i) then l[i] else topOf (l.take i):=by rw [Z78 hi,if_pos h]
theorem Z9P {l:List Int} {i:Nat} (hi:i<l.length) (h:¬ l[i]≤4095):topOf (l.take (i+1))=topOf (l.take i):=by rw [Z78 hi,if_neg h]
theorem Z5Y {t:Int} {l:List Int} {i:Nat} (hi:i<l.length):maskTo t (l.take (i+1))=if 0≤l[i]∧l[i]≤t then maskTo t (l.take i) ||| 2 ^ l[i].toNat else maskTo t (l.take i):=by
 simp only [maskTo,List.take_add_one,List.getElem?_eq_getElem hi,Option.toList_some,List.foldl_append,List.foldl_cons,List.foldl_nil]
theorem Z9Q:∀ (l:List Int),-1≤topOf l∧topOf l≤4095:=by
 intro l
 have:∀ (l:List Int) (t:Int),-1≤t→t≤4095 → -1≤l.foldl (fun t i=>if i≤4095 then (if i>t then i else t) else t) t∧l.foldl (fun t i=>if i≤4095 then (if i>t then i else t) else t) t≤4095:=by
  intro l
  induction l with
  | nil=>intro t h1 h2; exact⟨h1,h2⟩
  | cons x r ih =>
    intro t h1 h2
    simp only [List.foldl_cons]
    refine ih _ ?_ ?_
    · split
      · split<;>omega
      · exact h1
    · split
      · split<;>omega
      · exact h2
 exact this l (-1) (by omega) (by omega)
theorem Zca {t:Int} {l:List Int} (h:t<0):maskTo t l=0:=by
 have:∀ (l:List Int) (a:Nat),l.foldl (fun acc i=>if 0≤i∧i≤t then acc ||| 2 ^ i.toNat else acc) a=a:=by
  intro l
  induction l with
  | nil=>intro a; rfl
  | cons x r ih=>intro a; simp only [List.foldl_cons]; rw [if_neg (by omega)]; exact ih a
 exact this l 0
theorem Z9 (l:List Int):pureLL (nums l):=Z29 _ _ fun _ _=>⟨trivial,trivial⟩
theorem ZH (l:List Int) (D:Nat→Prop):innLL D (nums l):=Zd (fun _ h=>h.elim) _ (Z9 l)
theorem ZE (l:List Nat) (D:Nat→Prop):innLL D (words l):=Zd (fun _ h=>h.elim) _ (Zb l)
set_option maxHeartbeats 1000000 in
theorem Z7P (l:List Int) (fl:Bool):Spec Tryz.prog 48 [.vec (nums l) fl] (· = setN (maskTo (topOf l) l)):=by
 refine Z3 ok48 (Nat.le_of_ble_eq_true rfl) fun C hC=>?_
 refine Z37 (k:=0) rfl fun hmax=>?_
 have hlm:l.length≤maxVec:=by simpa [nums] using hmax
 have hnl:(nums l).length=l.length:=by simp [nums]
 refine go ?_
 refine Z4n (fun i=>i≤l.length) (fun i=>l.length-i) (fun i => [(0,.vec (nums l) fl),(2,.ptr 0 0 0),(3,.val (.int .i64 (topOf (l.take i)))),(9,.vec (nums l) fl),(10,.val (.int .i64 (l.length:Int))),(11,.val (.int .i64 (i:Int)))]) 0 (Nat.zero_le _) ⟨rfl,rfl,rfl,rfl,by rw [← hnl]; rfl,rfl,trivial⟩ ?_
 intro i hi
 have hinc:IntKind.i64.wrap ((i:Int)+1)=((i+1:Nat):Int):=IntWalk.i64_in _ ⟨by omega,by simp only [maxVec] at hlm; omega⟩
 (refine go ?_;repeat' (apply B<;>intro hb<;>try cases hb))
 · have hil : i < l.length := by simpa using hb
   refine Z7 (Zl (xs:=l) rfl rfl i rfl hil rfl) rfl rfl ?_
   (refine go ?_;repeat' (apply B<;>intro hb<;>try cases hb))
   · refine ⟨i + 1, by omega, by omega, rfl, rfl, ⟨rfl, rfl, ?_, rfl, rfl, by show some _ = some _; rw [hinc], trivial⟩⟩
     rw [topOf_take' hil (by simpa using hb)]; rfl
   · refine ⟨i + 1, by omega, by omega, rfl, rfl, ⟨rfl, rfl, ?_, rfl, rfl, by show some _ = some _; rw [hinc], trivial⟩⟩
     rw [Z9P hil (by simpa using hb)]; rfl
 · -- no member
   rename_i hb2
   have hil:i=l.length:=by simp at hb2; omega
   subst hil
   refine Z3X rfl ⟨trivial,trivial⟩ ?_
   rw [List.take_length] at hb
   have hlt:topOf l<0:=by simpa using hb
   rw [Zca hlt,setN,Zx]
   rfl
 · rename_i hb2
   have hil:i=l.length:=by simp at hb2; omega
   subst hil
   rw [List.take_length] at hb ⊢
   have hge:0≤topOf l:=by simpa using hb
   obtain⟨t,ht⟩:∃ t:Nat,topOf l=t:=⟨(topOf l).toNat,by omega⟩
   have htr:=(Z9Q l).2
   rw [ht] at htr ⊢
   have hq:IntKind.i64.wrap ((t:Int).tdiv 64)=((t / 64:Nat):Int):=by
    rw [IntWalk.i64_quo _ _ ⟨by omega,by omega,by omega⟩]; omega
   have hq1:IntKind.i64.wrap (((t / 64:Nat):Int)+1)=((t / 64+1:Nat):Int):=IntWalk.i64_in _ ⟨by omega,by omega⟩
   rw [hq,hq1]
   refine Zz (Z7L (a:=t / 64+1) (b:=t / 64+1) rfl rfl (Nat.le_refl _) (by omega)) rfl rfl ?_
   have hrep:List.replicate (t / 64+1) (zpv [Value.int .u64 0])=words (List.replicate (t / 64+1) 0):=by simp [words,zpv,pvOf]
   rw [hrep]
   refine go ?_
   refine Zr hC (fun (x:Nat×List Nat)=>x.1≤l.length∧x.2.length=t / 64+1∧Words x.2∧ofW x.2=maskTo t (l.take x.1)) (fun x=>l.length-x.1) 2 (fun x => [(2,.ptr 0 0 0),(3,.val (.int .i64 (t:Int))),(6,.own 1),(28,.vec (nums l) fl),(29,.val (.int .i64 (l.length:Int))),(30,.val (.int .i64 (x.1:Int)))])
    (fun x => [(0,⟨1,[[.vec [] true]]⟩),(1,⟨1,words x.2⟩)]) (by omega) (0,List.replicate (t / 64+1) 0) ⟨Nat.zero_le _,by simp,fun x hx=>by obtain rfl:=List.eq_of_mem_replicate hx; omega,?_⟩ ⟨⟨rfl,show (0:Nat)<2 by decide⟩,⟨rfl,trivial⟩,⟨rfl,show (1:Nat)<2 by decide⟩,⟨rfl,ZH _ _⟩,⟨by rw [← hnl]; rfl,trivial⟩,⟨rfl,trivial⟩,trivial⟩
    ⟨⟨by omega,rfl,⟨trivial,trivial⟩,trivial⟩,⟨by omega,rfl,ZE _ _⟩,trivial⟩ ?_
   · rw [Z5D fun j=>by simp [List.getD_eq_getElem?_getD,List.getElem?_replicate]; split<;>rfl]; rfl
   rintro⟨i,ws⟩ ⟨hi,hwl,hww,hmask⟩
   simp only at hi hwl hww hmask
   have hinc:IntKind.i64.wrap ((i:Int)+1)=((i+1:Nat):Int):=IntWalk.i64_in _ ⟨by omega,by simp only [maxVec] at hlm; omega⟩
   (refine go ?_;repeat' (apply B<;>intro hb<;>try cases hb))
   · have hil : i < l.length := by simpa using hb
     refine Z7 (Zl (xs:=l) rfl rfl i rfl hil rfl) rfl rfl ?_
     (refine go ?_;repeat' (apply B<;>intro hb<;>try cases hb))
     · have h0 : 0 ≤ l[i] := by rename_i h0; simpa using h0
       have h1:l[i]≤(t:Int):=by simpa using hb
       have hm:maskTo t (l.take (i+1))=maskTo t (l.take i) ||| 2 ^ l[i].toNat:=by rw [Z5Y hil,if_pos ⟨h0,h1⟩]
       obtain⟨j,hj⟩:∃ j:Nat,l[i]=j:=⟨l[i].toNat,by omega⟩
       rw [hj] at h1 hm ⊢
       rw [Int.toNat_natCast] at hm
       have hjq:IntKind.i64.wrap ((j:Int).tdiv 64)=((j / 64:Nat):Int):=by
        rw [IntWalk.i64_quo _ _ ⟨by omega,by omega,by omega⟩]; omega
       have hjr:(j:Int).tmod 64=((j % 64:Nat):Int):=by
        rw [Int.tmod_eq_emod_of_nonneg (by omega)]; omega
       rw [hjq]
       have hjl:j / 64<ws.length:=by omega
       have hel:(words ws).getD (j / 64) [] = [.val (.int .u64 (ws.getD (j / 64) 0:Nat))]:=by simp [words,List.getD_eq_getElem?_getD,hjl]
       have hj64:j % 64<64:=Nat.mod_lt _ (by omega)
       have hwn:(words ws).length=ws.length:=by simp [words]
       refine Zq (ZS rfl rfl rfl (j / 64) rfl (by rw [hwn]; exact hjl) rfl) rfl rfl ?_
       refine Zq (Z4m rfl rfl (by rw [hwn]; exact hjl) (by rw [hel]; rfl)) rfl rfl ?_
       (first|refine st ?_|(apply B<;>intro hb<;>try cases hb))
       refine Zq (Z3M rfl hjr) rfl rfl ?_
       refine Zq (Zc9 rfl rfl (by omega) (v:=((2 ^ (j % 64):Nat):Int)) (by
        rw [show min (((j % 64:Nat):Int)).toNat IntKind.u64.bits=j % 64 by simp [IntKind.bits]; omega]
        have:2 ^ (j % 64)<2 ^ 64:=Nat.pow_lt_pow_right (by omega) hj64
        rw [Int.one_mul,show (2:Int) ^ (j % 64)=((2 ^ (j % 64):Nat):Int) by simp]
        exact IntWalk.u64_in _ ⟨Int.natCast_nonneg _,Int.ofNat_le.2 (show _≤18446744073709551615 by omega)⟩)) rfl rfl ?_
       refine Zq (Z3M rfl (bits_or_u64_nat _ _ (hww.getD _) (show 2 ^ (j % 64)<2 ^ 64 from Nat.pow_lt_pow_right (by omega) hj64))) rfl rfl ?_
       refine Zq (ZS rfl rfl rfl (j / 64) rfl (by rw [hwn]; exact hjl) rfl) rfl rfl ?_
       refine Zq (Z3f rfl rfl rfl rfl rfl (by rw [hwn]; exact hjl) (Nat.le_refl _)) rfl rfl ?_
       rw [hel,show setAt [PV.val (Value.int .u64 (ws.getD (j / 64) 0:Nat))] 0 (PV.val (Value.int .u64 ((ws.getD (j / 64) 0 ||| 2 ^ (j % 64):Nat):Int))).cells = [.val (.int .u64 ((ws.getD (j / 64) 0 ||| 2 ^ (j % 64):Nat):Int))] from rfl]
       simp only
       rw [Z8L]
       (refine go ?_;repeat' (apply B<;>intro hb<;>try cases hb))
       refine⟨(i+1,ws.set (j / 64) (ws.getD (j / 64) 0 ||| 2 ^ (j % 64))),⟨by simp only; omega,by simpa using hwl,hww.set _ (Nat.or_lt_two_pow (n:=64) (hww.getD _) (Nat.pow_lt_pow_right (a:=2) (by omega) hj64)),?_⟩,by simp only; omega,⟨⟨rfl,show (0:Nat)<2 by decide⟩,⟨rfl,trivial⟩,⟨rfl,show (1:Nat)<2 by decide⟩,⟨rfl,ZH _ _⟩,⟨rfl,trivial⟩,⟨by show some _=some _; rw [hinc],trivial⟩,trivial⟩,⟨⟨by omega,rfl,⟨trivial,trivial⟩,trivial⟩,⟨by omega,rfl,ZE _ _⟩,trivial⟩⟩
       simp only
       rw [Zgk hww hjl hj64,hm,hmask,show 64*(j / 64)+j % 64=j by omega]
     all_goals
      refine⟨(i+1,ws),⟨by simp only; omega,hwl,hww,?_⟩,by simp only; omega,⟨⟨rfl,show (0:Nat)<2 by decide⟩,⟨rfl,trivial⟩,⟨rfl,show (1:Nat)<2 by decide⟩,⟨rfl,ZH _ _⟩,⟨rfl,trivial⟩,⟨by show some _=some _; rw [hinc],trivial⟩,trivial⟩,⟨⟨by omega,rfl,⟨trivial,trivial⟩,trivial⟩,⟨by omega,rfl,ZE _ _⟩,trivial⟩⟩
      simp only
      rw [Z5Y hil,if_neg (by simp at hb;omega)]
      exact hmask
   · have hil : i = l.length := by simp at hb; omega
     subst hil
     refine Ze (Zp (k:=52) rfl rfl (Zb ws)) ?_
     refine Zo rfl rfl (Z2I ws) ⟨Zb ws,trivial⟩ rfl fun r hr=>?_
     obtain rfl:=hr.set hww
     refine go ?_
     exact Z5 (r:=setN (ofW ws)) rfl (Z0 _) (by rw [hmask,List.take_length])
theorem Z2p (a k:Nat):Int.fdiv (a:Int) (2 ^ k)=((a / 2 ^ k:Nat):Int):=by
 rw [Int.fdiv_eq_ediv_of_nonneg _ (by exact Int.le_of_lt (Int.pow_pos (by omega)))]
 simp
theorem Zbf (l:List Nat) (hl:Words l) (i:Int):Spec Tryz.prog 72 [setP l,.val (.int .i64 i)] (· = .val (.bool (decide (0≤i∧i≤4095)&&(l.getD (i.toNat / 64) 0).testBit (i.toNat % 64)))):=by
 refine Z3 ok72 (Nat.le_of_ble_eq_true rfl) fun C hC=>?_
 refine Zm ?_
 refine Za ?_
 refine Z6 rfl rfl rfl ?_
 (refine go ?_;repeat' (apply B<;>intro hb<;>try cases hb))
 · rename_i h0
   have h1:0≤i:=by simpa using h0
   have h2:i≤4095:=by simpa using hb
   obtain⟨j,rfl⟩:∃ j:Nat,i=j:=⟨i.toNat,by omega⟩
   have hq:IntKind.i64.wrap ((j:Int).tdiv 64)=((j / 64:Nat):Int):=by
    rw [IntWalk.i64_quo _ _ ⟨by omega,by omega,by omega⟩]; omega
   have hr:(j:Int).tmod 64=((j % 64:Nat):Int):=by
    rw [Int.tmod_eq_emod_of_nonneg (by omega)]; omega
   refine Z4 (Z13 l (j / 64)) rfl rfl (by show [_,_]=_; rw [hq]; rfl) ⟨Z2H l,trivial,trivial⟩ rfl ?_
   refine Zh rfl ?_
   (first|refine st ?_|(apply B<;>intro hb<;>try cases hb))
   refine Zh rfl ?_
   refine Zn rfl rfl rfl hr ?_
   refine Zh rfl ?_
   have hw:=hl.getD (j / 64)
   have hm:j % 64<64:=Nat.mod_lt _ (by omega)
   refine Zfd rfl rfl (by omega) (v:=((l.getD (j / 64) 0 / 2 ^ (j % 64):Nat):Int)) (by
    rw [show min (((j % 64:Nat):Int)).toNat IntKind.u64.bits=j % 64 by simp [IntKind.bits]; omega]
    exact Z2p _ _) rfl ?_
   refine Zh rfl ?_
   refine Zn rfl rfl rfl (and_one_u64 _ (Int.natCast_nonneg _) (by
    have:=Nat.div_le_self (l.getD (j / 64) 0) (2 ^ (j % 64))
    exact Int.ofNat_le.2 (show _≤18446744073709551615 by omega))) ?_
   have ht:(((l.getD (j / 64) 0 / 2 ^ (j % 64):Nat):Int) % 2 == 1)=(l.getD (j / 64) 0).testBit (j % 64):=by
    rw [Nat.testBit_eq_decide_div_mod_eq,Bool.eq_iff_iff]
    generalize l.getD (j / 64) 0 / 2 ^ (j % 64)=z
    simp only [beq_iff_eq,decide_eq_true_eq]
    omega
   have ht':(decide (0≤(j:Int)∧(j:Int)≤4095)&&(l.getD ((j:Int).toNat / 64) 0).testBit ((j:Int).toNat % 64))=(l.getD (j / 64) 0).testBit (j % 64):=by
    simp only [Int.toNat_natCast,decide_eq_true (show 0≤(j:Int)∧(j:Int)≤4095 from ⟨h1,h2⟩),Bool.true_and]
   rw [ht',← ht]
   refine Zh rfl ?_
   generalize (((l.getD (j / 64) 0 / 2 ^ (j % 64):Nat):Int) % 2)=z
   (refine go ?_;repeat' (apply B<;>intro hb<;>try cases hb))
   all_goals exact Z5 rfl trivial (by rw [hb])
 · exact Z5 rfl trivial (by simp at hb ⊢;omega)
 · exact Z5 rfl trivial (by simp at hb ⊢;omega)
def popK:Nat→Nat→Nat
 | 0,_=>0
 | k+1,x=>x % 2+popK k (x / 2)
theorem Z7Q:∀ (j k x:Nat),popK (j+k) x=popK j x+popK k (x / 2 ^ j)
 | 0,k,x=>by simp [popK]
 | j + 1, k, x => by
   rw [show j+1+k=(j+k)+1 by omega]
   simp only [popK]
   rw [Z7Q j k,Nat.div_div_eq_div_mul,Nat.pow_succ,Nat.mul_comm 2]
   omega
theorem Zbg:∀ (j x:Nat),popK j (x % 2 ^ j)=popK j x
 | 0,x=>rfl
 | j + 1, x => by
   simp only [popK]
   have h1:x % 2 ^ (j+1) % 2=x % 2:=Nat.mod_mod_of_dvd _ ⟨2 ^ j,by rw [Nat.pow_succ,Nat.mul_comm]⟩
   have h2:x % 2 ^ (j+1) / 2=x / 2 % 2 ^ j:=by rw [Nat.pow_succ,Nat.mul_comm,Nat.mod_mul_right_div_self]
   rw [h1,h2,Zbg]
theorem Z3g (a y c m:Nat) (ha:a<256) (hc:c<256):(a+256*y) &&& (c+256*m)=(a &&& c)+256*(y &&& m):=by
 have e1:a+256*y=2 ^ 8*y+a:=by omega
 have e2:c+256*m=2 ^ 8*m+c:=by omega
 have hac:a &&& c<2 ^ 8:=Nat.and_lt_two_pow _ (by omega)
 rw [e1,e2,show (a &&& c)+256*(y &&& m)=2 ^ 8*(y &&& m)+(a &&& c) by omega]
 refine Nat.eq_of_testBit_eq fun i=>?_
 rw [Nat.testBit_and,Nat.testBit_two_pow_mul_add _ (by omega:a<2 ^ 8),Nat.testBit_two_pow_mul_add _ (by omega:c<2 ^ 8),Nat.testBit_two_pow_mul_add _ hac]
 by_cases hi:i<8
 · rw [if_pos hi,if_pos hi,if_pos hi,Nat.testBit_and]
 · rw [if_neg hi,if_neg hi,if_neg hi,Nat.testBit_and]
def rep (c:Nat):Nat→Nat
 | 0=>0
 | n+1=>c+256*rep c n
def s1 (m x:Nat):Nat:=(x / 2 &&& m)+(x &&& m)
def s2 (m x:Nat):Nat:=(x / 4 &&& m)+(x &&& m)
def s3 (m x:Nat):Nat:=(x / 16+x) &&& m
theorem Zgz (a b:Nat) (ha:a<256) (hb:b<2):(a / 2+128*b) &&& 85=a / 2 &&& 85:=by
 have:∀ b:Fin 2,∀ a:Fin 256,(a.1 / 2+128*b.1) &&& 85=a.1 / 2 &&& 85:=by decide +kernel
 exact this ⟨b,hb⟩ ⟨a,ha⟩
theorem ZgA (a b:Nat) (ha:a<256) (hb:b<4):(a / 4+64*b) &&& 51=a / 4 &&& 51:=by
 have:∀ b:Fin 4,∀ a:Fin 256,(a.1 / 4+64*b.1) &&& 51=a.1 / 4 &&& 51:=by decide +kernel
 exact this ⟨b,hb⟩ ⟨a,ha⟩
theorem ZgB (n a y:Nat) (ha:a<256):s1 (rep 85 (n+1)) (a+256*y)=s1 85 a+256*s1 (rep 85 n) y:=by
 have h1:(a+256*y) / 2=(a / 2+128*(y % 2))+256*(y / 2):=by omega
 simp only [s1,rep]
 rw [h1,Z3g _ _ _ _ (by omega) (by omega),Z3g _ _ _ _ ha (by omega),Zgz a _ ha (Nat.mod_lt _ (by omega))]
 omega
theorem ZgC (n a y:Nat) (ha:a<256):s2 (rep 51 (n+1)) (a+256*y)=s2 51 a+256*s2 (rep 51 n) y:=by
 have h1:(a+256*y) / 4=(a / 4+64*(y % 4))+256*(y / 4):=by omega
 simp only [s2,rep]
 rw [h1,Z3g _ _ _ _ (by omega) (by omega),Z3g _ _ _ _ ha (by omega),ZgA a _ ha (Nat.mod_lt _ (by omega))]
 omega
theorem Z5Z:∀ a:Fin 256,s1 85 a.1<256∧s2 51 (s1 85 a.1)<256∧s2 51 (s1 85 a.1) % 16≤4∧s2 51 (s1 85 a.1) / 16≤4∧s3 15 (s2 51 (s1 85 a.1))=popK 8 a.1∧popK 8 a.1≤8:=by decide +kernel
theorem ZgD (n a y:Nat) (ha:a % 16≤4) (ha':a / 16≤4) (hy:y % 16≤4):s3 (rep 15 (n+1)) (a+256*y)=s3 15 a+256*s3 (rep 15 n) y:=by
 have h1:(a+256*y) / 16+(a+256*y)=(a / 16+a+16*(y % 16))+256*(y / 16+y):=by omega
 simp only [s3,rep]
 rw [h1,Z3g _ _ _ _ (by omega) (by omega)]
 congr 1
 rw [show (15:Nat)=2 ^ 4-1 from rfl,Nat.and_two_pow_sub_one_eq_mod,Nat.and_two_pow_sub_one_eq_mod]
 omega
def pops:Nat→Nat→Nat
 | 0,_=>0
 | n+1,x=>popK 8 (x % 256)+256*pops n (x / 256)
theorem s123:∀ (n x:Nat),x<256 ^ n→s2 (rep 51 n) (s1 (rep 85 n) x) % 16≤4∧s3 (rep 15 n) (s2 (rep 51 n) (s1 (rep 85 n) x))=pops n x
 | 0, x, hx => by
   obtain rfl:x=0:=by simpa using hx
   decide
 | n + 1, x, hx => by
   have hx':x / 256<256 ^ n:=by rw [Nat.pow_succ] at hx; omega
   obtain⟨h1,h2⟩:=s123 n (x / 256) hx'
   have hm:x % 256<256:=Nat.mod_lt _ (by omega)
   obtain⟨b1,b2,b3,b4,b5,_⟩:=Z5Z ⟨x % 256,hm⟩
   simp only at b1 b2 b3 b4 b5
   have ex:x=x % 256+256*(x / 256):=by omega
   have e1:s1 (rep 85 (n+1)) x=s1 85 (x % 256)+256*s1 (rep 85 n) (x / 256):=by
    conv=>lhs; rw [ex]
    exact ZgB n _ _ hm
   rw [e1,ZgC n _ _ b1]
   refine⟨by omega,?_⟩
   rw [ZgD n _ _ b3 b4 h1,b5,h2]
   rfl
def val8:List Nat→Nat
 | []=>0
 | a :: r=>a+256*val8 r
theorem Z7R {a:Nat} {r:List Nat} (h:a<256):val8 (a :: r) / 256=val8 r:=by simp only [val8]; omega
theorem Z60 {a b:Nat} {r:List Nat} (h:a<256) (h':b<256):val8 (a :: b :: r) / 65536=val8 r:=by
 rw [show 65536=256*256 from rfl,← Nat.div_div_eq_div_mul,Z7R h,Z7R h']
theorem ZdB {a b c d:Nat} {r:List Nat} (h:a<256) (h':b<256) (h2:c<256) (h3:d<256):val8 (a :: b :: c :: d :: r) / 4294967296=val8 r:=by
 rw [show 4294967296=65536*65536 from rfl,← Nat.div_div_eq_div_mul,Z60 h h',Z60 h2 h3]
theorem fold1 {a b c d e f g i:Nat} (ha:a≤8):val8 [a,b,c,d,e,f,g,i]+val8 [a,b,c,d,e,f,g,i] / 256=val8 [a+b,b+c,c+d,d+e,e+f,f+g,g+i,i]:=by
 rw [Z7R (by omega)]; simp only [val8]; omega
theorem fold2 {a b c d e f g i:Nat} (ha:a≤16) (hb:b≤16):val8 [a,b,c,d,e,f,g,i]+val8 [a,b,c,d,e,f,g,i] / 65536=val8 [a+c,b+d,c+e,d+f,e+g,f+i,g,i]:=by
 rw [Z60 (by omega) (by omega)]; simp only [val8]; omega
theorem fold4 {a b c d e f g i:Nat} (ha:a≤32) (hb:b≤32) (hc:c≤32) (hd:d≤32):val8 [a,b,c,d,e,f,g,i]+val8 [a,b,c,d,e,f,g,i] / 4294967296=val8 [a+e,b+f,c+g,d+i,e,f,g,i]:=by
 rw [ZdB (by omega) (by omega) (by omega) (by omega)]; simp only [val8]; omega
theorem Z1Y {a m B:Nat} {r:List Nat} (h:a≤m) (hr:val8 r≤B):val8 (a :: r)≤m+256*B:=by simp only [val8]; omega
theorem Z51 {a b c d e f g i:Nat} (h1:a≤64) (h2:b≤64) (h3:c≤64) (h4:d≤64) (h5:e≤64) (h6:f≤64) (h7:g≤64) (h8:i≤64):val8 [a,b,c,d,e,f,g,i]<9223372036854775808 :=
 Nat.lt_of_le_of_lt (Z1Y h1 (Z1Y h2 (Z1Y h3 (Z1Y h4 (Z1Y h5 (Z1Y h6 (Z1Y h7 (Z1Y h8 (Nat.le_refl _))))))))) (by decide)
def byte (x i:Nat):Nat:=popK 8 (x / 256 ^ i % 256)
theorem Z3h (x i:Nat):byte x i≤8:=by
 obtain⟨_,_,_,_,_,b⟩:=Z5Z ⟨x / 256 ^ i % 256,Nat.mod_lt _ (by omega)⟩
 exact b
theorem Zfg (x:Nat):pops 8 x=val8 [byte x 0,byte x 1,byte x 2,byte x 3,byte x 4,byte x 5,byte x 6,byte x 7]:=by
 simp only [pops,val8,byte,Nat.div_div_eq_div_mul]
 simp only [Nat.reduceMul,Nat.reducePow,Nat.pow_zero,Nat.div_one]
theorem Zcb (x:Nat):popK 64 x=byte x 0+byte x 1+byte x 2+byte x 3+byte x 4+byte x 5+byte x 6+byte x 7:=by
 have h:∀ n y,popK (8+n) y=popK 8 (y % 256)+popK n (y / 256):=fun n y=>by
  rw [Z7Q,show (256:Nat)=2 ^ 8 from rfl,Zbg]
 rw [show 64=8+(8+(8+(8+(8+(8+(8+(8+0))))))) from rfl]
 simp only [h,Nat.div_div_eq_div_mul]
 simp only [byte,Nat.reduceMul,Nat.reducePow,Nat.pow_zero,Nat.div_one]
 simp only [popK]
 omega
theorem Zfh (x:Nat):∃ y z u:Nat,pops 8 x+pops 8 x / 256=y∧y+y / 65536=z∧z+z / 4294967296=u∧y<9223372036854775808∧z<9223372036854775808∧u<9223372036854775808∧u % 128=popK 64 x:=by
 have h0:=Z3h x 0
 have h1:=Z3h x 1
 have h2:=Z3h x 2
 have h3:=Z3h x 3
 have h4:=Z3h x 4
 have h5:=Z3h x 5
 have h6:=Z3h x 6
 have h7:=Z3h x 7
 rw [Zcb,Zfg]
 generalize byte x 0=a at *
 generalize byte x 1=b at *
 generalize byte x 2=c at *
 generalize byte x 3=d at *
 generalize byte x 4=e at *
 generalize byte x 5=f at *
 generalize byte x 6=g at *
 generalize byte x 7=i at *
 refine⟨_,_,_,rfl,rfl,rfl,?_⟩
 rw [fold1 h0,fold2 (by omega) (by omega),fold4 (by omega) (by omega) (by omega) (by omega)]
 refine⟨?_,?_,?_,?_⟩
 · exact Z51 (by omega) (by omega) (by omega) (by omega) (by omega) (by omega) (by omega) (by omega)
 · exact Z51 (by omega) (by omega) (by omega) (by omega) (by omega) (by omega) (by omega) (by omega)
 · exact Z51 (by omega) (by omega) (by omega) (by omega) (by omega) (by omega) (by omega) (by omega)
 · simp only [val8]; omega
theorem rep85:rep 85 8=6148914691236517205:=rfl
theorem rep51:rep 51 8=3689348814741910323:=rfl
theorem w64 (k:Nat) (h:k<18446744073709551616):IntKind.u64.wrap (k:Int)=k:=IntWalk.u64_in _ ⟨by omega,by omega⟩
theorem step1 (x:Nat) (hx:x<18446744073709551616):IntKind.u64.wrap (bits .and .u64 (Int.fdiv (x:Int) (2 ^ (min (1:Int).toNat IntKind.u64.bits))) 6148914691236517205+bits .and .u64 (x:Int) 6148914691236517205)=((s1 (rep 85 8) x:Nat):Int)∧s1 (rep 85 8) x<18446744073709551616:=by
 have e1:Int.fdiv (x:Int) (2 ^ (min (1:Int).toNat IntKind.u64.bits))=((x / 2:Nat):Int):=Z2p x 1
 have b1:=bits_and_u64_nat (x / 2) 6148914691236517205 (by omega) (by omega)
 have b2:=bits_and_u64_nat x 6148914691236517205 hx (by omega)
 have h1:x / 2 &&& 6148914691236517205≤6148914691236517205:=Nat.and_le_right
 have h2:x &&& 6148914691236517205≤6148914691236517205:=Nat.and_le_right
 have hlt:s1 (rep 85 8) x<18446744073709551616:=by rw [rep85,s1]; omega
 refine⟨?_,hlt⟩
 rw [e1]
 refine (congrArg IntKind.u64.wrap (congr (congrArg (· + ·) b1) b2)).trans ?_
 rw [← Int.natCast_add]
 exact w64 _ hlt
theorem step2 (x:Nat) (hx:x<18446744073709551616):IntKind.u64.wrap (bits .and .u64 (Int.fdiv (x:Int) (2 ^ (min (2:Int).toNat IntKind.u64.bits))) 3689348814741910323+bits .and .u64 (x:Int) 3689348814741910323)=((s2 (rep 51 8) x:Nat):Int)∧s2 (rep 51 8) x<18446744073709551616:=by
 have e1:Int.fdiv (x:Int) (2 ^ (min (2:Int).toNat IntKind.u64.bits))=((x / 4:Nat):Int):=Z2p x 2
 have b1:=bits_and_u64_nat (x / 4) 3689348814741910323 (by omega) (by omega)
 have b2:=bits_and_u64_nat x 3689348814741910323 hx (by omega)
 have h1:x / 4 &&& 3689348814741910323≤3689348814741910323:=Nat.and_le_right
 have h2:x &&& 3689348814741910323≤3689348814741910323:=Nat.and_le_right
 have hlt:s2 (rep 51 8) x<18446744073709551616:=by rw [rep51,s2]; omega
 refine⟨?_,hlt⟩
 rw [e1]
 refine (congrArg IntKind.u64.wrap (congr (congrArg (· + ·) b1) b2)).trans ?_
 rw [← Int.natCast_add]
 exact w64 _ hlt
theorem step3 (x:Nat) (hx:x<9223372036854775808):bits .and .u64 (IntKind.u64.wrap (Int.fdiv (x:Int) (2 ^ (min (4:Int).toNat IntKind.u64.bits))+(x:Int))) 1085102592571150095=((s3 (rep 15 8) x:Nat):Int):=by
 have e1:Int.fdiv (x:Int) (2 ^ (min (4:Int).toNat IntKind.u64.bits))=((x / 16:Nat):Int):=Z2p x 4
 rw [e1,← Int.natCast_add,w64 _ (by omega)]
 exact bits_and_u64_nat (x / 16+x) 1085102592571150095 (by omega) (by omega)
theorem step45 (x k y:Nat) (kk:Int) (hk:min kk.toNat IntKind.u64.bits=k) (hy:x+x / 2 ^ k=y) (hlt:y<9223372036854775808):IntKind.u64.wrap ((x:Int)+Int.fdiv (x:Int) (2 ^ (min kk.toNat IntKind.u64.bits)))=((y:Nat):Int):=by
 rw [hk,Z2p x k,← Int.natCast_add,hy]
 exact w64 _ (by omega)
theorem and127 (x:Nat) (hx:x<9223372036854775808):bits .and .i64 (IntKind.i64.wrap (x:Int)) 127=((x % 128:Nat):Int):=by
 have h1:(BitVec.ofInt 64 (x:Int)).toNat=x:=by
  rw [BitVec.ofInt_natCast,BitVec.toNat_ofNat]; exact Nat.mod_eq_of_lt (by omega)
 have h2:(BitVec.ofInt 64 (127:Int)).toNat=127:=rfl
 rw [IntWalk.i64_in _ ⟨by omega,by omega⟩]
 show IntKind.i64.wrap ((BitVec.ofInt 64 (x:Int) &&& BitVec.ofInt 64 (127:Int)).toNat:Int)=_
 rw [BitVec.toNat_and,h1,h2,show (127:Nat)=2 ^ 7-1 from rfl,Nat.and_two_pow_sub_one_eq_mod]
 exact IntWalk.i64_in _ ⟨by omega,by omega⟩
theorem ZdC (x:Nat) (hx:x<18446744073709551616):Spec Tryz.prog 68 [.val (.int .u64 (x:Int))] (· = .val (.int .i64 (popK 64 x:Nat))):=by
 refine Z3 ok68 (Nat.le_of_ble_eq_true rfl) fun C hC=>?_
 obtain⟨a1,l1⟩:=step1 x hx
 obtain⟨a2,l2⟩:=step2 _ l1
 obtain⟨_,b3⟩:=s123 8 x (by rw [show (256:Nat) ^ 8=18446744073709551616 from rfl]; exact hx)
 have l3:s2 (rep 51 8) (s1 (rep 85 8) x)<9223372036854775808:=by
  have h1:s1 (rep 85 8) x / 4 &&& rep 51 8≤rep 51 8:=Nat.and_le_right
  have h2:s1 (rep 85 8) x &&& rep 51 8≤rep 51 8:=Nat.and_le_right
  rw [s2]
  rw [rep51] at *
  omega
 have a3:=step3 _ l3
 rw [b3] at a3
 obtain⟨y,z,u,f1,f2,f3,g1,g2,g3,g4⟩:=Zfh x
 have a4:=step45 (pops 8 x) 8 y 8 rfl f1 g1
 have a5:=step45 y 16 z 16 rfl f2 g2
 have a6:=step45 z 32 u 32 rfl f3 g3
 have a7:=and127 u g3
 rw [g4] at a7
 iterate 11 (first|refine st ?_|(apply B<;>intro hb<;>try cases hb))
 refine Zn rfl rfl rfl a1 ?_
 iterate 9 (first|refine st ?_|(apply B<;>intro hb<;>try cases hb))
 refine Zn rfl rfl rfl a2 ?_
 iterate 8 (first|refine st ?_|(apply B<;>intro hb<;>try cases hb))
 refine Zn rfl rfl rfl a3 ?_
 iterate 7 (first|refine st ?_|(apply B<;>intro hb<;>try cases hb))
 refine Zn rfl rfl rfl a4 ?_
 iterate 7 (first|refine st ?_|(apply B<;>intro hb<;>try cases hb))
 refine Zn rfl rfl rfl a5 ?_
 iterate 7 (first|refine st ?_|(apply B<;>intro hb<;>try cases hb))
 refine Zn rfl rfl rfl a6 ?_
 iterate 6 (first|refine st ?_|(apply B<;>intro hb<;>try cases hb))
 refine Zn rfl rfl rfl a7 ?_
 refine go ?_
 exact Z5 rfl trivial rfl
inductive Fm where
 | mk (op n:Int) (roles:List Int) (args:List Fm)
def Fm.op:Fm→Int | .mk op _ _ _=>op
def Fm.n:Fm→Int | .mk _ n _ _=>n
def Fm.roles:Fm→List Int | .mk _ _ r _=>r
def Fm.args:Fm→List Fm | .mk _ _ _ a=>a
mutual
def Fm.depth:Fm→Nat
 | .mk _ _ _ args=>depthL args+1
def depthL:List Fm→Nat
 | []=>0
 | a :: r=>max a.depth (depthL r)
end
mutual
def Fm.size:Fm→Nat
 | .mk _ _ _ args=>sizeL args+1
def sizeL:List Fm→Nat
 | []=>0
 | a :: r=>a.size+sizeL r
end
theorem Fm.depth_eq (f:Fm):f.depth=depthL f.args+1:=by cases f; simp [Fm.depth,Fm.args]
theorem Fm.size_eq (f:Fm):f.size=sizeL f.args+1:=by cases f; simp [Fm.size,Fm.args]
theorem Z4p (l m:List Fm):depthL (l++m)=max (depthL l) (depthL m):=by
 induction l with
 | nil=>simp [depthL]
 | cons a r ih=>simp only [List.cons_append,depthL,ih]; omega
theorem Z5h (l m:List Fm):sizeL (l++m)=sizeL l+sizeL m:=by
 induction l with
 | nil=>simp [sizeL]
 | cons a r ih=>simp only [List.cons_append,sizeL,ih]; omega
theorem Z61 {l:List Fm} {i:Nat} (hi:i<l.length):depthL (l.take (i+1))=max (depthL (l.take i)) l[i].depth:=by
 have e:l.take (i+1)=l.take i ++ [l[i]]:=by rw [List.take_add_one,List.getElem?_eq_getElem hi]; rfl
 rw [e,Z4p]
 simp only [depthL]
 omega
theorem Z79 {l:List Fm} {i:Nat} (hi:i<l.length):sizeL (l.take (i+1))=sizeL (l.take i)+l[i].size:=by
 have e:l.take (i+1)=l.take i ++ [l[i]]:=by rw [List.take_add_one,List.getElem?_eq_getElem hi]; rfl
 rw [e,Z5h]
 simp only [sizeL]
 omega
theorem Z1c {l:List Fm} {i:Nat} (hi:i<l.length):l[i].depth≤depthL l:=by
 have:=Z61 hi
 have h2:=Z4p (l.take (i+1)) (l.drop (i+1))
 rw [List.take_append_drop] at h2
 omega
theorem Zbh (l:List Fm) (i:Nat):sizeL (l.take i)≤sizeL l:=by
 have h2:=Z5h (l.take i) (l.drop i)
 rw [List.take_append_drop] at h2
 omega
theorem Z4q {l:List Fm} {i:Nat} (hi:i<l.length):l[i].size≤sizeL l:=by
 have:=Z79 hi
 have:=Zbh l (i+1)
 omega
theorem Z1T (l:List Fm):l.length≤sizeL l:=by
 induction l with
 | nil=>simp [sizeL]
 | cons a r ih=>simp only [List.length_cons,sizeL]; have:=a.size_eq; omega
mutual
def cellsK (k:IntKind):Fm→List PV
 | .mk op n roles args => [.val (.int k op),.val (.int .i64 n),.vec (nums roles) false,.vec (cellsKL k args) false]
def cellsKL (k:IntKind):List Fm→List (List PV)
 | [] => []
 | a :: r=>cellsK k a :: cellsKL k r
end
def fC (k:IntKind) (f:Fm):List PV := [.val (.int k f.op),.val (.int .i64 f.n),.vec (nums f.roles) false,.vec (f.args.map (cellsK k)) false]
theorem Z7a (k:IntKind) (l:List Fm):cellsKL k l=l.map (cellsK k):=by
 induction l with
 | nil=>rfl
 | cons a r ih=>simp [cellsKL,ih]
theorem ZI (k:IntKind) (f:Fm):cellsK k f=fC k f:=by
 cases f; simp [cellsK,fC,Z7a,Fm.op,Fm.n,Fm.roles,Fm.args]
theorem ZA (k:IntKind) (f:Fm):(cellsK k f).length=4:=by rw [ZI]; rfl
mutual
theorem Z62 (k:IntKind):∀ f:Fm,pureL (cellsK k f)
 | .mk op n roles args=>⟨trivial,trivial,Z9 roles,Z3i k args,trivial⟩
theorem Z3i (k:IntKind):∀ l:List Fm,pureLL (cellsKL k l)
 | []=>trivial
 | a :: r=>⟨Z62 k a,Z3i k r⟩
end
theorem Zk (k:IntKind) (f:Fm):pureL (fC k f):=ZI k f▸Z62 k f
theorem Z1M (k:IntKind) (l:List Fm):pureLL (l.map (cellsK k)):=Z7a k l▸Z3i k l
theorem Z1Z (k:IntKind) (l:List Fm) (D:Nat→Prop):innLL D (l.map (cellsK k)):=Zd (fun _ h=>h.elim) _ (Z1M k l)
theorem Z5i (k:IntKind) (f:Fm) (D:Nat→Prop):innL D (fC k f):=ZC (fun _ h=>h.elim) _ (Zk k f)
theorem ZdD (b:Bool):Spec Tryz.prog 111 [.val (.bool b)] (· = .val (.int .i64 (if b then 1 else 0))):=by
 refine Z3 ok111 (Nat.le_of_ble_eq_true rfl) fun C hC=>?_
 (refine go ?_;repeat' (apply B<;>intro hb<;>try cases hb))
 all_goals exact Z5 rfl trivial rfl
def operandsM (op:Int):Int:=if 8≤op then 2 else if op=7 then 1 else 0
def leastM (op:Int):Int:=if op=4 ∨ op=6 then 1 else if op=5 then 1 else 0
def mostM (op:Int):Int:=if op=4 ∨ op=6 then 1 else if op=5 then 8 else 0
theorem Zcc (op:Int):Spec Tryz.prog 192 [.val (.int .u8 op)] (· = .tup [.val (.int .i64 (operandsM op)),.val (.int .i64 (leastM op)),.val (.int .i64 (mostM op))]):=by
 refine Z3 ok192 (Nat.le_of_ble_eq_true rfl) fun C hC=>?_
 (refine go ?_;repeat' (apply B<;>intro hb<;>try cases hb))
 all_goals refine Z5 rfl ⟨trivial,trivial,trivial,trivial⟩ ?_
 all_goals simp_all [operandsM,leastM,mostM,pvOf]
 all_goals try omega
def typeM (op:Int):Int:=if op=1 ∨ op=5 ∨ op=6 ∨ op=16 then 2 else 1
theorem Z3Y (op:Int):Spec Tryz.prog 96 [.val (.int .u8 op)] (· = .val (.int .u8 (typeM op))):=by
 refine Z3 ok96 (Nat.le_of_ble_eq_true rfl) fun C hC=>?_
 (refine go ?_;repeat' (apply B<;>intro hb<;>try cases hb))
 all_goals refine Z5 rfl trivial ?_; simp_all [typeM,pvOf]
theorem Z8M:∀ (d:Nat) (f:Fm),f.depth≤d→d≤1000→f.size≤1099511627776→Spec Tryz.prog 129 [.agg (fC .u8 f)] (· = .tup [.val (.int .i64 f.depth),.val (.int .i64 f.size)]):=by
 intro d
 induction d with
 | zero=>intro f hf; rw [Fm.depth_eq] at hf; omega
 | succ d ih =>
   intro f hf hd hsz
   refine Z3 ok129 (Nat.le_of_ble_eq_true rfl) fun C hC=>?_
   refine Zm ?_
   refine Za ?_
   refine Z6 rfl rfl rfl ?_
   (refine go ?_;repeat' (apply B<;>intro hb<;>try cases hb))
   have hll:(f.args.map (cellsK .u8)).length=f.args.length:=by simp
   have hfs:=f.size_eq
   have hfd:=f.depth_eq
   have hlm:=Z1T f.args
   refine Zr hC (fun i=>i≤f.args.length) (fun i=>f.args.length-i) 0 (fun i => [(2,.val (.int .i64 (depthL (f.args.take i)))),(3,.val (.int .i64 (sizeL (f.args.take i)))),(9,.vec (f.args.map (cellsK .u8)) false),(10,.val (.int .i64 f.args.length)),(11,.val (.int .i64 (i:Int)))]) (fun _=>[]) (Nat.le_refl _) 0 (Nat.zero_le _)
    ⟨⟨rfl,trivial⟩,⟨rfl,trivial⟩,⟨rfl,Z1Z _ _ _⟩,⟨by rw [← hll]; rfl,trivial⟩,⟨rfl,trivial⟩,trivial⟩ trivial ?_
   intro i hi
   have hinc:IntKind.i64.wrap ((i:Int)+1)=((i+1:Nat):Int):=IntWalk.i64_in _ ⟨by omega,by omega⟩
   (refine go ?_;repeat' (apply B<;>intro hb<;>try cases hb))
   · have hil : i < f.args.length := by simpa using hb
     refine Z7 (Zl (xs:=f.args) rfl rfl i rfl hil (ZA _ _)) rfl rfl ?_
     rw [ZI]
     (refine go ?_;repeat' (apply B<;>intro hb<;>try cases hb))
     have hdl:=Z1c hil
     have hsl:=Z4q hil
     have hsi:=Zbh f.args (i+1)
     have htk:=Z79 hil
     refine Z4 (ih f.args[i] (by omega) (by omega) (by omega)) rfl rfl rfl ⟨Zk _ _,trivial⟩ rfl ?_
     (refine go ?_;repeat' (apply B<;>intro hb<;>try cases hb))
     refine⟨i+1,by omega,by omega,⟨⟨?_,trivial⟩,⟨?_,trivial⟩,⟨rfl,Z1Z _ _ _⟩,⟨rfl,trivial⟩,⟨by show some _=some _; rw [hinc],trivial⟩,trivial⟩,trivial⟩
     · show some _ = some _
       rw [Z61 hil]
       congr 3
       omega
     · show some _ = some _
       congr 3
       rw [IntWalk.i64_in _ ⟨by omega,by omega⟩]
       omega
   · have hil : i = f.args.length := by simp at hb; omega
     subst hil
     rw [List.take_length] at *
     refine Z5 rfl ⟨trivial,trivial,trivial⟩ ?_
     rw [IntWalk.i64_in _ ⟨by omega,by omega⟩,IntWalk.i64_in _ ⟨by omega,by omega⟩,hfs,hfd]
     rfl
def wantM (op:Int):Int:=if op≥11 then 2 else 1
mutual
def fitsM:Fm→Bool
 | .mk op _ _ args=>fitsL (wantM op) args
def fitsL (w:Int):List Fm→Bool
 | []=>true
 | a :: r=>decide (typeM a.op=w)&&fitsM a&&fitsL w r
end
theorem Z4r (f:Fm):fitsM f=fitsL (wantM f.op) f.args:=by cases f; simp [fitsM,Fm.op,Fm.args]
theorem Z5j (w:Int) (l m:List Fm):fitsL w (l++m)=(fitsL w l&&fitsL w m):=by
 induction l with
 | nil=>simp [fitsL]
 | cons a r ih=>simp only [List.cons_append,fitsL,ih,Bool.and_assoc]
theorem Z7b {w:Int} {l:List Fm} {i:Nat} (hi:i<l.length):fitsL w (l.take (i+1))=(fitsL w (l.take i)&&(decide (typeM l[i].op=w)&&fitsM l[i])):=by
 have e:l.take (i+1)=l.take i ++ [l[i]]:=by rw [List.take_add_one,List.getElem?_eq_getElem hi]; rfl
 rw [e,Z5j]
 simp [fitsL]
theorem Z8N {w:Int} {l:List Fm} {i:Nat} (hi:i<l.length) (h:(decide (typeM l[i].op=w)&&fitsM l[i])=false):fitsL w l=false:=by
 have h2:=Z5j w (l.take (i+1)) (l.drop (i+1))
 rw [List.take_append_drop,Z7b hi,h] at h2
 simpa using h2
theorem Z8O:∀ (d:Nat) (f:Fm),f.depth≤d→Spec Tryz.prog 95 [.agg (fC .u8 f)] (· = .val (.bool (fitsM f))):=by
 intro d
 induction d with
 | zero=>intro f hf; rw [Fm.depth_eq] at hf; omega
 | succ d ih =>
   intro f hf
   have hll:(f.args.map (cellsK .u8)).length=f.args.length:=by simp
   have hfd:=f.depth_eq
   refine Z3 ok95 (Nat.le_of_ble_eq_true rfl) fun C hC=>?_
   refine Zm ?_
   refine Za ?_
   refine Z6 rfl rfl rfl ?_
   (refine go ?_;repeat' (apply B<;>intro hb<;>try cases hb))
   all_goals
    have hw:wantM f.op=(if f.op≥11 then 2 else 1):=rfl
    have hop':=hb
    simp only [decide_eq_true_eq,decide_eq_false_iff_not] at hop'
    first|rw [if_pos hop'] at hw|rw [if_neg hop'] at hw
    clear hb hop'
    refine Z37 (k:=10) rfl fun hmax=>?_
    rw [hll] at hmax
    refine Zr hC (fun i=>i≤f.args.length∧fitsL (wantM f.op) (f.args.take i)=true) (fun i=>f.args.length-i) 0 (fun i => [(3,.val (.int .u8 (wantM f.op))),(10,.vec (f.args.map (cellsK .u8)) false),(11,.val (.int .i64 f.args.length)),(12,.val (.int .i64 (i:Int)))]) (fun _=>[]) (Nat.le_refl _) 0 ⟨Nat.zero_le _,rfl⟩
     ⟨⟨by rw [hw]; rfl,trivial⟩,⟨rfl,Z1Z _ _ _⟩,⟨by rw [← hll]; rfl,trivial⟩,⟨rfl,trivial⟩,trivial⟩ trivial ?_
    rintro i ⟨hi,hfit⟩
    have hinc:IntKind.i64.wrap ((i:Int)+1)=((i+1:Nat):Int):=IntWalk.i64_in _ ⟨by omega,by simp only [maxVec] at hmax; omega⟩
    (refine go ?_;repeat' (apply B<;>intro hb<;>try cases hb))
    · have hil : i < f.args.length := by simpa using hb
      refine Z7 (Zl (xs:=f.args) rfl rfl i rfl hil (ZA _ _)) rfl rfl ?_
      rw [ZI]
      (refine go ?_;repeat' (apply B<;>intro hb<;>try cases hb))
      have hdl:=Z1c hil
      refine Z4 (Z3Y f.args[i].op) rfl rfl rfl ⟨trivial,trivial⟩ rfl ?_
      (refine go ?_;repeat' (apply B<;>intro hb<;>try cases hb))
      · refine Z5 rfl trivial ?_
        rw [Z4r,Z8N hil (by simp at hb; simp [hb])]
      · refine Z4 (ih f.args[i] (by omega)) rfl rfl rfl ⟨Zk _ _, trivial⟩ rfl ?_
        (refine go ?_;repeat' (apply B<;>intro hb<;>try cases hb))
        · refine Z5 rfl trivial ?_
          rw [Z4r,Z8N hil (by simp at hb; simp [hb])]
        · refine ⟨i + 1, ⟨by omega, ?_⟩, by omega, ⟨⟨rfl, trivial⟩, ⟨rfl, Z1Z _ _ _⟩, ⟨rfl, trivial⟩, ⟨by show some _ = some _; rw [hinc], trivial⟩, trivial⟩, trivial⟩
          rename_i hne
          rw [Z7b hil,hfit]
          simp at hb hne
          simp [hb,hne]
    · have hil : i = f.args.length := by simp at hb; omega
      subst hil
      rw [List.take_length] at hfit
      exact Z5 rfl trivial (by rw [Z4r,hfit])
def badArity (f:Fm):Bool:=decide (f.op<1)||decide (f.op>16)||decide ((f.args.length:Int)≠operandsM f.op)
def badForm (f:Fm):Bool:=(decide (f.op≠1)&&decide (f.n≠0))||decide ((f.roles.length:Int)<leastM f.op)||decide ((f.roles.length:Int)>mostM f.op)
def badN (f:Fm):Bool:=decide (f.n<0)||decide (f.n>999999)
def inRange (l:List Int):Bool:=l.all fun r=>decide (1≤r)&&decide (r≤63)
def nodeM (f:Fm):Int:=if badArity f then 1 else if badForm f then 6 else if badN f then 2 else if inRange f.roles then (if decide f.roles.Nodup then 0 else 5) else 2
def badKind (k op:Int):Bool:=(decide (k=3)&&(decide (op=4)||decide (op=5)))||(decide (k≠0)&&decide (k≠3)&&decide (op=6))
def nodeK (k:Int) (f:Fm):Int:=if nodeM f=0 then (if badKind k f.op then 10 else 0) else nodeM f
theorem ZB (l:List Int):(nums l).length=l.length:=by simp [nums]
theorem Z63 {l:List Int} {i:Nat} (hi:i<l.length) (h:(decide (1≤l[i])&&decide (l[i]≤63))=false):inRange l=false:=by
 unfold inRange
 rw [List.all_eq_false]
 exact⟨l[i],List.getElem_mem _,by simpa using h⟩
theorem Z8P {l:List Int} {i:Nat} (hi:i<l.length):inRange (l.take (i+1))=(inRange (l.take i)&&(decide (1≤l[i])&&decide (l[i]≤63))):=by
 have e:l.take (i+1)=l.take i ++ [l[i]]:=by rw [List.take_add_one,List.getElem?_eq_getElem hi]; rfl
 rw [e,inRange,List.all_append]
 simp [inRange]
mutual
def insideM (k:Int):Fm→Int
 | .mk op n roles args=>if nodeK k (.mk op n roles args)=0 then insideL k args else nodeK k (.mk op n roles args)
def insideL (k:Int):List Fm→Int
 | []=>0
 | a :: r=>if insideM k a=0 then insideL k r else insideM k a
end
theorem Z14 (k:Int) (f:Fm):insideM k f=if nodeK k f=0 then insideL k f.args else nodeK k f:=by cases f; simp [insideM,Fm.args]
theorem Z3R (k:Int) (l m:List Fm):insideL k (l++m)=if insideL k l=0 then insideL k m else insideL k l:=by
 induction l with
 | nil=>simp [insideL]
 | cons a r ih =>
   simp only [List.cons_append,insideL,ih]
   split
   · rfl
   · rfl
theorem Z5k {k:Int} {l:List Fm} {i:Nat} (hi:i<l.length) (h:insideL k (l.take i)=0):insideL k (l.take (i+1))=insideM k l[i]:=by
 have e:l.take (i+1)=l.take i ++ [l[i]]:=by rw [List.take_add_one,List.getElem?_eq_getElem hi]; rfl
 rw [e,Z3R,if_pos h]
 simp only [insideL]
 split
 · rename_i h; rw [h]
 · rfl
theorem Z9R {k:Int} {l:List Fm} {i:Nat} (hi:i<l.length) (h:insideL k (l.take i)=0) (hb:insideM k l[i]≠0):insideL k l=insideM k l[i]:=by
 have h2:=Z3R k (l.take (i+1)) (l.drop (i+1))
 rw [List.take_append_drop,Z5k hi h,if_neg hb] at h2
 exact h2
def typeOfT (f:Fm):Int:=if f.depth>10 ∨ f.size>200 then 0 else if insideM 0 f=0 then (if fitsM f then typeM f.op else 0) else 0
def typeOfE (f:Fm):Int:=if f.depth>10 ∨ f.size>200 then 3 else if insideM 0 f=0 then (if fitsM f then 0 else 10) else insideM 0 f
theorem Z7S:∀ (k x:Nat),popK k x≤k
 | 0,_=>Nat.le_refl _
 | k+1,x=>by have:=Z7S k (x / 2); simp only [popK]; omega
theorem Z2g:∀ k,popK k 0=0
 | 0=>rfl
 | k+1=>by simp only [popK,Nat.zero_div,Z2g k]
def lenW (l:List Nat):Nat:=(l.map (popK 64)).sum
theorem ZdE {l:List Nat} {i:Nat} (hi:i<l.length):lenW (l.take (i+1))=lenW (l.take i)+popK 64 l[i]:=by
 have e:l.take (i+1)=l.take i ++ [l[i]]:=by rw [List.take_add_one,List.getElem?_eq_getElem hi]; rfl
 rw [e,lenW,List.map_append,List.sum_append]
 simp [lenW]
theorem ZgE (l:List Nat):lenW l≤64*l.length:=by
 induction l with
 | nil=>simp [lenW]
 | cons a r ih=>have:=Z7S 64 a; simp only [lenW,List.map_cons,List.sum_cons,List.length_cons] at *; omega
theorem Z8Q {N:Nat} (h:N<18446744073709551616):lenW (digs N)=popK 64 N:=by
 by_cases h0:N=0
 · subst h0; rw [Zx,Z2g]; rfl
 · rw [Z2o h0,Nat.mod_eq_of_lt h,Nat.div_eq_of_lt h,Zx]; simp [lenW]
theorem Zbi (l:List Nat) (hw:Words l) (hlm:l.length≤1099511627776):Spec Tryz.prog 24 [setP l] (· = .val (.int .i64 (lenW l:Nat))):=by
 refine Z3 ok24 (Nat.le_of_ble_eq_true rfl) fun C hC=>?_
 have hll:(words l).length=l.length:=by simp [words]
 refine Zm ?_
 refine Za ?_
 refine Z6 rfl rfl rfl ?_
 (refine go ?_;repeat' (apply B<;>intro hb<;>try cases hb))
 refine Zr hC (fun i=>i≤l.length) (fun i=>l.length-i) 0 (fun i => [(3,.val (.int .i64 (lenW (l.take i):Nat))),(7,.vec (words l) false),(8,.val (.int .i64 l.length)),(9,.val (.int .i64 (i:Int)))]) (fun _=>[]) (Nat.le_refl _) 0 (Nat.zero_le _)
  ⟨⟨rfl,trivial⟩,⟨rfl,ZE _ _⟩,⟨by rw [← hll]; rfl,trivial⟩,⟨rfl,trivial⟩,trivial⟩ trivial ?_
 intro i hi
 have hinc:IntKind.i64.wrap ((i:Int)+1)=((i+1:Nat):Int):=IntWalk.i64_in _ ⟨by omega,by omega⟩
 (refine go ?_;repeat' (apply B<;>intro hb<;>try cases hb))
 · have hil : i < l.length := by simpa using hb
   refine Z7 (Zl (xs:=l) rfl rfl i rfl hil rfl) rfl rfl ?_
   (refine go ?_;repeat' (apply B<;>intro hb<;>try cases hb))
   refine Z4 (ZdC l[i] (hw _ (List.getElem_mem _))) rfl rfl rfl ⟨trivial,trivial⟩ rfl ?_
   have hadd:IntKind.i64.wrap ((lenW (l.take i):Int)+(popK 64 l[i]:Int))=((lenW (l.take (i+1)):Nat):Int):=by
    have:=ZdE hil
    have h2:=ZgE (l.take (i+1))
    have h3:(l.take (i+1)).length≤l.length:=by rw [List.length_take]; omega
    rw [this] at h2 ⊢
    rw [← Int.natCast_add]
    exact IntWalk.i64_in _ ⟨by omega,by omega⟩
   refine Zn rfl rfl rfl hadd ?_
   (refine go ?_;repeat' (apply B<;>intro hb<;>try cases hb))
   exact⟨i+1,by omega,by omega,⟨⟨rfl,trivial⟩,⟨rfl,ZE _ _⟩,⟨rfl,trivial⟩,⟨by show some _=some _; rw [hinc],trivial⟩,trivial⟩,trivial⟩
 · have hil : i = l.length := by simp at hb; omega
   subst hil
   rw [List.take_length]
   exact Z5 rfl trivial rfl
theorem Z9S:∀ (k N j:Nat),j<k→popK k (N ||| 2 ^ j)=popK k N+(if N.testBit j then 0 else 1)
 | 0,_,_,h=>by omega
 | k + 1, N, 0, _ => by
   simp only [popK,Nat.or_div_two,Nat.pow_zero]
   have h1:(N ||| 1) % 2=1:=by
    have:(N ||| 1).testBit 0=true:=by rw [Nat.testBit_or]; simp
    rw [Nat.testBit_zero] at this
    exact of_decide_eq_true this
   rw [h1,show 1 / 2=0 from rfl,Nat.or_zero,Nat.testBit_zero]
   by_cases h:N % 2=1
   · simp [h]
   · have : N % 2 = 0 := by omega
     simp [this]; omega
 | k + 1, N, j + 1, h => by
   have h2:2 ^ (j+1) / 2=2 ^ j:=by rw [Nat.pow_succ]; omega
   have h1:(N ||| 2 ^ (j+1)) % 2=N % 2:=by
    have e:(N ||| 2 ^ (j+1)).testBit 0=N.testBit 0:=by rw [Nat.testBit_or,Nat.testBit_two_pow]; simp
    rw [Nat.testBit_zero,Nat.testBit_zero,decide_eq_decide] at e
    omega
   simp only [popK,Nat.or_div_two,h1,h2]
   rw [Z9S k (N / 2) j (by omega),Nat.testBit_succ]
   omega
theorem Z8R (t:Int):∀ (l:List Int) (acc:Nat),(∀ r∈l,1≤r∧r≤63∧r≤t)→acc<18446744073709551616 →
 ∃ m, l.foldl (fun acc i => if 0 ≤ i ∧ i ≤ t then acc ||| 2 ^ i.toNat else acc) acc = m ∧ m < 18446744073709551616 ∧ (∀ j : Nat, m.testBit j = (acc.testBit j || decide ((j : Int) ∈ l))) ∧ popK 64 m ≤ popK 64 acc + l.length ∧
   (popK 64 m=popK 64 acc+l.length↔l.Nodup∧∀ r∈l,acc.testBit r.toNat=false)
 | [],acc,_,ha=>⟨acc,rfl,ha,by simp,by simp,by simp⟩
 | x :: r, acc, h, ha => by
   obtain⟨h1,h2,h3⟩:=h x (by simp)
   have hx:x.toNat<64:=by omega
   have hacc:acc ||| 2 ^ x.toNat<18446744073709551616:=Nat.or_lt_two_pow (n:=64) ha (Nat.pow_lt_pow_right (by omega) hx)
   obtain⟨m,e,hm,hbit,hle,hiff⟩:=Z8R t r (acc ||| 2 ^ x.toNat) (fun y hy=>h y (by simp [hy])) hacc
   have hor:=Z9S 64 acc x.toNat hx
   refine⟨m,by rw [List.foldl_cons,if_pos ⟨by omega,h3⟩]; exact e,hm,fun j=>?_,?_,?_⟩
   · rw [hbit, Nat.testBit_or, Nat.testBit_two_pow, Bool.or_assoc]
     have:decide ((j:Int)∈x :: r)=(decide (x.toNat=j)||decide ((j:Int)∈r)):=by
      rw [Bool.eq_iff_iff,Bool.or_eq_true,decide_eq_true_eq,decide_eq_true_eq,decide_eq_true_eq,List.mem_cons]
      refine or_congr_left ?_
      omega
     rw [this]
   · rw [List.length_cons]; split at hor<;>omega
   · rw [List.length_cons, List.nodup_cons]
     by_cases hb:acc.testBit x.toNat=true
     · rw [if_pos hb] at hor
       constructor
       · intro he; omega
       · rintro⟨_,hall⟩; rw [hall x (by simp)] at hb; cases hb
     · rw [if_neg hb] at hor
       have:popK 64 m=popK 64 acc+(r.length+1)↔popK 64 m=popK 64 (acc ||| 2 ^ x.toNat)+r.length:=by omega
       rw [this,hiff]
       have hbt:∀ y∈r,(acc ||| 2 ^ x.toNat).testBit y.toNat=false↔acc.testBit y.toNat=false∧y≠x:=fun y hy=>by
        rw [Nat.testBit_or,Nat.testBit_two_pow,Bool.or_eq_false_iff,decide_eq_false_iff_not]
        have:=(h y (by simp [hy])).1
        refine and_congr_right fun _=>⟨fun h he=>h (by rw [he]),fun h he=>h ?_⟩
        omega
       constructor
       · rintro ⟨hn, hall⟩
         refine⟨⟨fun hx=>((hbt x hx).1 (hall x hx)).2 rfl,hn⟩,fun y hy=>?_⟩
         rcases List.mem_cons.1 hy with rfl|hy
         · simpa using hb
         · exact ((hbt y hy).1 (hall y hy)).1
       · rintro ⟨⟨hx, hn⟩, hall⟩
         exact⟨hn,fun y hy=>(hbt y hy).2 ⟨hall y (by simp [hy]),fun he=>hx (he▸hy)⟩⟩
theorem Zfi:∀ (l:List Int),(∀ r∈l,r≤4095)→∀ r∈l,r≤topOf l:=by
 have:∀ (l:List Int) (t:Int),(∀ r∈l,r≤4095)→t≤l.foldl (fun t i=>if i≤4095 then (if i>t then i else t) else t) t∧∀ r∈l,r≤l.foldl (fun t i=>if i≤4095 then (if i>t then i else t) else t) t:=by
  intro l
  induction l with
  | nil=>intro t _; simp
  | cons x r ih =>
    intro t h
    have hx:=h x (by simp)
    simp only [List.foldl_cons,if_pos hx]
    obtain⟨u,hu,h3,h4⟩:∃ u,(if x>t then x else t)=u∧t≤u∧x≤u:=⟨_,rfl,by split<;>omega,by split<;>omega⟩
    rw [hu]
    obtain⟨h1,h2⟩:=ih u (fun y hy=>h y (by simp [hy]))
    refine⟨by omega,fun y hy=>?_⟩
    rcases List.mem_cons.1 hy with rfl|hy
    · omega
    · exact h2 y hy
 exact fun l h=>(this l (-1) h).2
theorem Zcd (l:List Int) (h:inRange l=true):maskTo (topOf l) l<18446744073709551616∧(∀ j:Nat,(maskTo (topOf l) l).testBit j=decide ((j:Int)∈l))∧(popK 64 (maskTo (topOf l) l)=l.length↔l.Nodup)∧popK 64 (maskTo (topOf l) l)≤l.length:=by
 have hall:∀ r∈l,1≤r∧r≤63:=fun r hr=>by
  have:=List.all_eq_true.1 h r hr
  simpa using this
 have hge:=Zfi l fun r hr=>by have:=hall r hr; omega
 obtain⟨m,e,h1,h2,h3,h4⟩:=Z8R (topOf l) l 0 (fun r hr=>⟨(hall r hr).1,(hall r hr).2,hge r hr⟩) (by omega)
 have e':maskTo (topOf l) l=m:=e
 rw [e']
 refine⟨h1,fun j=>by rw [h2]; simp,?_,by rw [Z2g] at h3; omega⟩
 rw [Z2g,Nat.zero_add] at h4
 rw [h4]
 simp
set_option maxHeartbeats 1000000 in
theorem ZdF (f:Fm) (hsz:f.args.length≤1099511627776):Spec Tryz.prog 159 [.agg (fC .u8 f)] (· = .val (.int .i64 (nodeM f))):=by
 refine Z3 ok159 (Nat.le_of_ble_eq_true rfl) fun C hC=>?_
 have hal:(f.args.map (cellsK .u8)).length=f.args.length:=by simp
 have hrl:=ZB f.roles
 refine Zm ?_
 refine Za ?_
 refine Z6 rfl rfl rfl ?_
 refine Z7 rfl rfl rfl ?_
 refine Z12 ?_
 have hpu:=Z5i .u8 f (· < 0)
 refine Z1r hC True 0 [(1,.cp (fC .u8 f)),(3,.val (.int .i64 (operandsM f.op))),(4,.val (.int .i64 (leastM f.op))),(5,.val (.int .i64 (mostM f.op)))] [] (Nat.le_refl _) ?_ fun _=>?_
 · (refine go ?_;repeat' (apply B<;>intro hb<;>try cases hb))
   refine Z4 (Zcc f.op) rfl rfl rfl ⟨trivial,trivial⟩ rfl ?_
   (refine go ?_;repeat' (apply B<;>intro hb<;>try cases hb))
   exact⟨trivial,⟨⟨rfl,hpu⟩,⟨rfl,trivial⟩,⟨rfl,trivial⟩,⟨rfl,trivial⟩,trivial⟩,trivial⟩
 refine Z1r hC (badArity f=false) 0 [(1,.cp (fC .u8 f)),(4,.val (.int .i64 (leastM f.op))),(5,.val (.int .i64 (mostM f.op)))] [] (Nat.le_refl _) ?_ fun hA=>?_
 · (refine go ?_;repeat' (apply B<;>intro hb<;>try cases hb))
   all_goals first
    | (refine ⟨?_, ⟨⟨rfl, hpu⟩, ⟨rfl, trivial⟩, ⟨rfl, trivial⟩, trivial⟩, trivial⟩
       simp [hal] at *
       simp_all [badArity]
       done)
    | (refine Z5 rfl trivial ?_
       simp [hal] at *
       simp_all [nodeM,badArity,pvOf]
       done)
 refine Z1r hC (badForm f=false) 0 [(1,.cp (fC .u8 f))] [] (Nat.le_refl _) ?_ fun hB=>?_
 · (refine go ?_;repeat' (apply B<;>intro hb<;>try cases hb))
   all_goals first
    | (refine ⟨?_, ⟨⟨rfl, hpu⟩, trivial⟩, trivial⟩
       simp [hrl] at *
       simp_all [badForm]
       done)
    | (refine Z5 rfl trivial ?_
       simp [hrl] at *
       simp_all [nodeM,badForm,pvOf]
       done)
 refine Z1r hC (badN f=false) 0 [(1,.cp (fC .u8 f))] [] (Nat.le_refl _) ?_ fun hN=>?_
 · (refine go ?_;repeat' (apply B<;>intro hb<;>try cases hb))
   all_goals first
    | (refine ⟨?_, ⟨⟨rfl, hpu⟩, trivial⟩, trivial⟩
       simp_all [badN]
       done)
    | (refine Z5 rfl trivial ?_
       simp_all [nodeM,badN,pvOf]
       done)
 refine Z1r hC (inRange f.roles=true∧f.roles.length≤maxVec) 0 [(1,.cp (fC .u8 f))] [] (Nat.le_refl _) ?_ fun hR=>?_
 · (refine go ?_;repeat' (apply B<;>intro hb<;>try cases hb))
   refine Z37 (k:=61) rfl fun hmax=>?_
   rw [hrl] at hmax
   refine Zr hC (fun i=>i≤f.roles.length∧inRange (f.roles.take i)=true) (fun i=>f.roles.length-i) 0 (fun i => [(1,.cp (fC .u8 f)),(61,.vec (nums f.roles) false),(62,.val (.int .i64 f.roles.length)),(63,.val (.int .i64 (i:Int)))]) (fun _=>[]) (Nat.le_refl _) 0 ⟨Nat.zero_le _,rfl⟩
    ⟨⟨rfl,hpu⟩,⟨rfl,ZH _ _⟩,⟨by rw [← hrl]; rfl,trivial⟩,⟨rfl,trivial⟩,trivial⟩ trivial ?_
   rintro i ⟨hi,hin⟩
   have hinc:IntKind.i64.wrap ((i:Int)+1)=((i+1:Nat):Int):=IntWalk.i64_in _ ⟨by omega,by simp only [maxVec] at hmax; omega⟩
   (refine go ?_;repeat' (apply B<;>intro hb<;>try cases hb))
   · have hil : i < f.roles.length := by simpa using hb
     refine Z7 (Zl (xs:=f.roles) rfl rfl i rfl hil rfl) rfl rfl ?_
     (refine go ?_;repeat' (apply B<;>intro hb<;>try cases hb))
     · refine Z5 rfl trivial ?_
       have:=Z63 hil (by simp at hb; simp;omega)
       simp [nodeM,hA,hB,hN,this,pvOf]
     · refine Z5 rfl trivial ?_
       have:=Z63 hil (by simp at hb; simp;omega)
       simp [nodeM,hA,hB,hN,this,pvOf]
     · refine ⟨i + 1, ⟨by omega, ?_⟩, by omega, ⟨⟨rfl, hpu⟩, ⟨rfl, ZH _ _⟩, ⟨rfl, trivial⟩, ⟨by show some _ = some _; rw [hinc], trivial⟩, trivial⟩, trivial⟩
       rename_i h1
       simp at hb h1
       rw [Z8P hil,hin]
       simp
       omega
   · have hil : i = f.roles.length := by simp at hb; omega
     subst hil
     rw [List.take_length] at hin
     exact⟨⟨hin,hmax⟩,⟨⟨rfl,hpu⟩,trivial⟩,trivial⟩
 obtain⟨hR,hmax⟩:=hR
 obtain⟨hm1,hm2,hm3,hm4⟩:=Zcd f.roles hR
 have hle:(digs (maskTo (topOf f.roles) f.roles)).length≤1:=by
  by_cases h0:maskTo (topOf f.roles) f.roles=0
  · rw [h0,Zx]; simp
  · rw [Z2o h0,Nat.div_eq_of_lt hm1,Zx]; simp
 (refine go ?_;repeat' (apply B<;>intro hb<;>try cases hb))
 refine Zt (Z7P f.roles false) rfl rfl rfl ⟨Z9 _,trivial⟩ ?_
 refine Zt (Zbi _ (Z1L _) (by omega)) rfl rfl rfl ⟨Z2H _,trivial⟩ ?_
 rw [Z8Q hm1]
 generalize popK 64 (maskTo (topOf f.roles) f.roles)=z at *
 (refine go ?_;repeat' (apply B<;>intro hb<;>try cases hb))
 · refine Z5 rfl trivial ?_
   have hne:¬ f.roles.Nodup:=fun h=>by
    simp [hrl,hm3.2 h] at hb
   simp [nodeM,hA,hB,hN,hR,hne,pvOf]
 · refine Z5 rfl trivial ?_
   have hnd:f.roles.Nodup:=hm3.1 (by simp [hrl] at hb;omega)
   simp [nodeM,hA,hB,hN,hR,hnd,pvOf]
theorem Z9T (k:Int):∀ (d:Nat) (f:Fm),f.depth≤d→f.size≤1099511627776→Spec Tryz.prog 130 [.agg (fC .u8 f),.val (.int .u8 k)] (· = .val (.int .i64 (insideM k f))):=by
 intro d
 induction d with
 | zero=>intro f hf; rw [Fm.depth_eq] at hf; omega
 | succ d ih =>
   intro f hf hsz
   have hll:(f.args.map (cellsK .u8)).length=f.args.length:=by simp
   have hfd:=f.depth_eq
   have hfs:=f.size_eq
   have hlm:=Z1T f.args
   have hpu:=Z5i .u8 f (· < 0)
   refine Z3 ok130 (Nat.le_of_ble_eq_true rfl) fun C hC=>?_
   refine Zm ?_
   refine Za ?_
   refine Z6 rfl rfl rfl ?_
   refine Z7 rfl rfl rfl ?_
   refine Z12 ?_
   refine Z1r hC (nodeM f=0) 0 [(1,.val (.int .u8 k)),(2,.cp (fC .u8 f))] [] (Nat.le_refl _) ?_ fun hz=>?_
   · (refine go ?_;repeat' (apply B<;>intro hb<;>try cases hb))
     refine Z4 (ZdF f (by omega)) rfl rfl rfl ⟨Zk _ _,trivial⟩ rfl ?_
     (refine go ?_;repeat' (apply B<;>intro hb<;>try cases hb))
     · refine Z5 rfl trivial ?_
       have hne:nodeM f≠0:=by simpa using hb
       rw [Z14,nodeK,if_neg hne,if_neg hne]
     · exact⟨by simpa using hb,⟨⟨rfl,trivial⟩,⟨rfl,hpu⟩,trivial⟩,trivial⟩
   refine Z1r hC True 0 [(1,.val (.int .u8 k)),(2,.cp (fC .u8 f)),(6,.val (.bool (decide (f.op=4)||decide (f.op=5))))] [] (Nat.le_refl _) ?_ fun _=>?_
   · (refine go ?_;repeat' (apply B<;>intro hb<;>try cases hb))
     all_goals
      simp at hb
      refine⟨trivial,⟨⟨rfl,trivial⟩,⟨rfl,hpu⟩,⟨?_,trivial⟩,trivial⟩,trivial⟩
      show some (PV.val (Value.bool _))=_
      simp_all
   refine Z1r hC (badKind k f.op=false) 0 [(1,.val (.int .u8 k)),(2,.cp (fC .u8 f))] [] (Nat.le_refl _) ?_ fun hk=>?_
   · (refine go ?_;repeat' (apply B<;>intro hb<;>try cases hb))
     all_goals first
      | (refine ⟨?_, ⟨⟨rfl, trivial⟩, ⟨rfl, hpu⟩, trivial⟩, trivial⟩
         simp at *
         simp_all [badKind]
         done)
      | (refine Z5 rfl trivial ?_
         simp at *
         simp_all [Z14,nodeK,badKind,pvOf]
         done)
   have hz':nodeK k f=0:=by rw [nodeK,if_pos hz,hk]; rfl
   (refine go ?_;repeat' (apply B<;>intro hb<;>try cases hb))
   refine Zr hC (fun i=>i≤f.args.length∧insideL k (f.args.take i)=0) (fun i=>f.args.length-i) 0 (fun i => [(1,.val (.int .u8 k)),(42,.vec (f.args.map (cellsK .u8)) false),(43,.val (.int .i64 f.args.length)),(44,.val (.int .i64 (i:Int)))]) (fun _=>[]) (Nat.le_refl _) 0 ⟨Nat.zero_le _,rfl⟩
    ⟨⟨rfl,trivial⟩,⟨rfl,Z1Z _ _ _⟩,⟨by rw [← hll]; rfl,trivial⟩,⟨rfl,trivial⟩,trivial⟩ trivial ?_
   rintro i ⟨hi,hin⟩
   have hinc:IntKind.i64.wrap ((i:Int)+1)=((i+1:Nat):Int):=IntWalk.i64_in _ ⟨by omega,by omega⟩
   (refine go ?_;repeat' (apply B<;>intro hb<;>try cases hb))
   · have hil : i < f.args.length := by simpa using hb
     refine Z7 (Zl (xs:=f.args) rfl rfl i rfl hil (ZA _ _)) rfl rfl ?_
     rw [ZI]
     (refine go ?_;repeat' (apply B<;>intro hb<;>try cases hb))
     have hdl:=Z1c hil
     have hsl:=Z4q hil
     refine Z4 (ih f.args[i] (by omega) (by omega)) rfl rfl rfl ⟨Zk _ _,trivial,trivial⟩ rfl ?_
     (refine go ?_;repeat' (apply B<;>intro hb<;>try cases hb))
     · refine Z5 rfl trivial ?_
       have hne:insideM k f.args[i]≠0:=by simpa using hb
       rw [Z14 k f,if_pos hz',Z9R hil hin hne]
     · refine ⟨i + 1, ⟨by omega, ?_⟩, by omega, ⟨⟨rfl, trivial⟩, ⟨rfl, Z1Z _ _ _⟩, ⟨rfl, trivial⟩, ⟨by show some _ = some _; rw [hinc], trivial⟩, trivial⟩, trivial⟩
       rw [Z5k hil hin]
       simpa using hb
   · have hil : i = f.args.length := by simp at hb; omega
     subst hil
     rw [List.take_length] at hin
     exact Z5 rfl trivial (by rw [Z14,if_pos hz',hin]; rfl)
def lookM (k:Int) (f:Fm):Int:=if f.depth>10 ∨ f.size>200 then 3 else insideM k f
theorem Z8S (k:Int) (f:Fm) (hd:f.depth≤1000) (hsz:f.size≤1099511627776):Spec Tryz.prog 94 [.agg (fC .u8 f),.val (.int .u8 k)] (· = .val (.int .i64 (lookM k f))):=by
 refine Z3 ok94 (Nat.le_of_ble_eq_true rfl) fun C hC=>?_
 refine Zm ?_
 refine Za ?_
 refine Z6 rfl rfl rfl ?_
 (refine go ?_;repeat' (apply B<;>intro hb<;>try cases hb))
 refine Z4 (Z8M f.depth f (Nat.le_refl _) hd hsz) rfl rfl rfl ⟨Zk _ _,trivial⟩ rfl ?_
 have main:¬ f.depth>10→¬ f.size>200→lookM k f=insideM k f:=fun h1 h2=>by simp [lookM,h1,h2]
 (refine go ?_;repeat' (apply B<;>intro hb<;>try cases hb))
 · exact Z5 rfl trivial (by simp at hb; simp [lookM,show f.depth>10 by omega,pvOf])
 · exact Z5 rfl trivial (by simp at hb; simp [lookM,show f.size>200 by omega,pvOf])
 · rename_i h1
   refine Z4 (Z9T k f.depth f (Nat.le_refl _) hsz) rfl rfl rfl ⟨Zk _ _,trivial,trivial⟩ rfl ?_
   (refine go ?_;repeat' (apply B<;>intro hb<;>try cases hb))
   exact Z5 rfl trivial (by simp at hb h1; rw [main (by omega) (by omega)])
theorem Z9U (f:Fm) (hd:f.depth≤1000) (hsz:f.size≤1099511627776):Spec Tryz.prog 59 [.agg (fC .u8 f)] (· = .tup [.val (.int .u8 (typeOfT f)),.val (.int .i64 (typeOfE f))]):=by
 refine Z3 ok59 (Nat.le_of_ble_eq_true rfl) fun C hC=>?_
 refine Zm ?_
 refine Za ?_
 refine Z6 rfl rfl rfl ?_
 (refine go ?_;repeat' (apply B<;>intro hb<;>try cases hb))
 refine Z4 (Z8S 0 f hd hsz) rfl rfl rfl ⟨Zk _ _,trivial,trivial⟩ rfl ?_
 have h0:lookM 0 f≠0→typeOfT f=0∧typeOfE f=lookM 0 f:=fun h=>by
  unfold typeOfT typeOfE
  unfold lookM at h ⊢
  split at h
  · rename_i h1; simp [h1]
  · rename_i h1; simp only [if_neg h1,if_neg h]; exact⟨trivial,trivial⟩
 have h1:lookM 0 f=0→typeOfT f=(if fitsM f then typeM f.op else 0)∧typeOfE f=if fitsM f then 0 else 10:=fun h=>by
  unfold typeOfT typeOfE
  unfold lookM at h
  split at h
  · cases h
  · rename_i h1; simp only [if_neg h1,if_pos h]; exact⟨trivial,trivial⟩
 (refine go ?_;repeat' (apply B<;>intro hb<;>try cases hb))
 · obtain ⟨e1, e2⟩ := h0 (by simpa using hb)
   exact Z5 rfl ⟨trivial,trivial,trivial⟩ (by rw [e1,e2]; rfl)
 obtain⟨e1,e2⟩:=h1 (by simpa using hb)
 refine Z4 (Z8O f.depth f (Nat.le_refl _)) rfl rfl rfl ⟨Zk _ _,trivial⟩ rfl ?_
 (refine go ?_;repeat' (apply B<;>intro hb<;>try cases hb))
 · have h4 : fitsM f = false := by simpa using hb
   exact Z5 rfl ⟨trivial,trivial,trivial⟩ (by rw [e1,e2,h4]; rfl)
 have h4:fitsM f=true:=by simpa using hb
 refine Z4 (Z3Y f.op) rfl rfl rfl ⟨trivial,trivial⟩ rfl ?_
 (refine go ?_;repeat' (apply B<;>intro hb<;>try cases hb))
 exact Z5 rfl ⟨trivial,trivial,trivial⟩ (by rw [e1,e2,h4]; rfl)
end Go.Proofs.YtjpkfigmmmngnaaGreatDoor
