/-
  Merged from the texts that this claim's theorem needs, part 3 of 6. No statement of the seat is proved here.
-/
import Derived.Carry
import Derived.IntWalk
import Derived.KernelRfl
import Derived.LaidMore
import Derived.LoopNIn
import Derived.OpenShut
import Derived.ProofKit
import Derived.SizedLaws
import Derived.Test.YtcoehdmpjflmlaaGreatDoorChecked
import Derived.Test.YtcoehdmpjflmlaaGreatDoorRows
import Derived.WalkSmall
import Derived.Test.YtcoehdmpjflmlaaGreatDoorMq1
set_option linter.unusedSimpArgs false
set_option linter.unusedVariables false
set_option linter.unusedSectionVars false

namespace Go.Proofs.YtcoehdmpjflmlaaGreatDoor
set_option maxRecDepth 100000
theorem mixed : Tryz.prog.follows .mixedOrders = true := by kernel_rfl

abbrev tT (n : Nat) : Operand := .tmp n
abbrev oO (d : Nat) (p : AOp) : AOper := ⟨some d, p, none⟩
abbrev oT (g d : Nat) (p : AOp) : AOper := ⟨some d, p, some (g, true)⟩
abbrev oF (g d : Nat) (p : AOp) : AOper := ⟨some d, p, some (g, false)⟩
abbrev oM (d a : Nat) : AOper := ⟨some d, .mov (.tmp a), none⟩
abbrev nS : Value := .slice none 0 0
abbrev kI (n : Int) : Operand := .const (.int .i64 n)
abbrev kT : Operand := .const (.bool true)
abbrev kF : Operand := .const (.bool false)
abbrev kC (f : FuncId) (l : List Operand) : AOp := .call (.func f) l
abbrev sQ (x y : ACode) : ACode := .seq x y
def ir3 : ACode := (sQ (.region [oO 3 (.box (tT 0)),oO 4 (.box (tT 1)),oO 6 (.mov kF)]) (sQ (sQ (.region [oO 18 (kC 5 []),oO 19 (.una .not (tT 18))]) (.cond (tT 19) (sQ (.region [oO 6 (.mov kF)]) .ret) .skip)) (sQ (.region [oO 21 (.load true 4 (tT 3)),
 oO 22 (kC 6 [(tT 21)]),oM 20 22,oO 23 (.extract (tT 20) 0),oO 24 (.extract (tT 20) 1),oO 25 (.extract (tT 20) 2),oO 7 (.alloc [(.pointer none),(.pointer none),(.int .i64 0),(.int .i64 0)]),oO 8 (.alloc [nS,
 nS,(.int .i64 0),(.int .i64 0)]),⟨none,.store 4 (tT 7) (tT 23),none⟩,⟨none,.store 4 (tT 8) (tT 24),none⟩,oM 9 25]) (sQ (sQ (.region [oM 26 9,oO 27 (.una .not (tT 26))]) (.cond (tT 27) (sQ (.region [oO 6 (.mov kF)]) .ret) .skip)) (sQ (.region [oO 28 (.load true 3 (tT 4)),
 oO 29 (kC 7 [(tT 28)]),oO 10 (.alloc [(.int .i64 0),(.int .i64 0),(.int .i64 0)]),⟨none,.store 3 (tT 10) (tT 29),none⟩]) (sQ (.region [oM 30 2,oO 31 (.bin .rem .num (tT 30) (.const (.int .u8 6))),oO 32 (.conv .i64 (tT 31)),
 oO 33 (.bin .add .num (kI 1) (tT 32)),oO 34 (.faddr 1 (tT 10)),⟨none,.store 1 (tT 34) (tT 33),none⟩]) (sQ (.region [oO 36 (.faddr 1 (tT 7)),oO 37 (.load false 1 (tT 36)),oO 38 (.faddr 0 (tT 10)),oO 39 (.load false 1 (tT 38)),
 oO 40 (.faddr 1 (tT 10)),oO 41 (.load false 1 (tT 40)),oO 42 (.faddr 2 (tT 10)),oO 43 (.load false 1 (tT 42)),oO 44 (kC 8 [(tT 37),(tT 39),(tT 41),(tT 43)]),oM 35 44,oO 45 (.extract (tT 35) 0),oO 46 (.extract (tT 35) 1),
 oM 11 45,oM 12 46]) (sQ (sQ (.region [oM 47 12,oO 48 (.bin .neq .num (tT 47) (kI 0))]) (.cond (tT 48) (sQ (.region [oO 6 (.mov kF)]) .ret) .skip)) (sQ (.region [oO 49 (.load true 4 (tT 7)),oO 13 (.alloc [(.pointer none),
 (.pointer none),(.int .i64 0),(.int .i64 0)]),⟨none,.store 4 (tT 13) (tT 49),none⟩]) (sQ (.region [oM 50 11,oO 51 (.faddr 1 (tT 13)),⟨none,.store 1 (tT 51) (tT 50),none⟩]) (sQ (sQ (.region [oO 14 (.mov (kI 1))]) (.block 0 (.loop (sQ (sQ (.region [oM 52 14,
 oO 53 (.faddr 2 (tT 7)),oO 54 (.load false 1 (tT 53)),oO 55 (.bin .leq .num (tT 52) (tT 54))]) (.cond (tT 55) .skip (.exit 0))) (sQ (.block 1 (sQ (.region [oO 58 (.load true 4 (tT 7)),oM 59 14,oO 60 (kC 9 [(tT 58),
 (tT 59)]),oO 15 (.alloc [nS]),⟨none,.store 1 (tT 15) (tT 60),none⟩]) (sQ (sQ (.region [oM 61 14,oO 62 (.faddr 0 (tT 10)),oO 63 (.load false 1 (tT 62)),oO 64 (.bin .eql .num (tT 61) (tT 63)),oM 65 64,oT 65 66 (.faddr 3 (tT 7)),
 oT 65 67 (.load false 1 (tT 66)),oT 65 68 (.faddr 2 (tT 10)),oT 65 69 (.load false 1 (tT 68)),oT 65 70 (.bin .leq .num (tT 67) (tT 69)),oO 71 (.pick (tT 65) (tT 70) kF)]) (.cond (tT 71) (.draw [⟨0,oO 72 (.load true 1 (tT 15)),
 0,0,false⟩,⟨1,oO 73 (.faddr 0 (tT 7)),0,0,false⟩,⟨2,oO 74 (.load false 1 (tT 73)),2,0,false⟩,⟨3,oO 75 (.faddr 1 (tT 10)),0,0,false⟩,⟨4,oO 76 (.load false 1 (tT 75)),8,0,false⟩,⟨5,oO 77 (kC 11 [(tT 74),
 (tT 76)]),30,0,false⟩,⟨6,oO 78 (kC 10 [(tT 72),(tT 77)]),63,1,false⟩,⟨7,⟨none,.store 1 (tT 15) (tT 78),none⟩,127,1,false⟩]) .skip)) (sQ (.region [oO 80 (.faddr 1 (tT 7)),oO 81 (.load false 1 (tT 80)),oM 82 14,
 oO 83 (.faddr 1 (tT 10)),oO 84 (.load false 1 (tT 83)),oO 85 (kC 12 [(tT 81),(tT 82),(tT 84)]),oM 79 85,oO 86 (.extract (tT 79) 0),oO 87 (.extract (tT 79) 1),oM 16 86,oM 17 87]) (sQ (sQ (.region [oM 88 14,
 oO 89 (.faddr 0 (tT 10)),oO 90 (.load false 1 (tT 89)),oO 91 (.bin .eql .num (tT 88) (tT 90)),oM 92 91,oT 92 93 (.faddr 2 (tT 10)),oT 92 94 (.load false 1 (tT 93)),oT 92 95 (.faddr 3 (tT 7)),oT 92 96 (.load false 1 (tT 95)),
 oT 92 97 (.bin .lss .num (tT 94) (tT 96)),oO 98 (.pick (tT 92) (tT 97) kF),oM 99 98,oT 99 100 (.mov (tT 17)),oO 101 (.pick (tT 99) (tT 100) kF),oM 102 101,oT 102 103 (.mov (tT 16)),oT 102 104 (.faddr 3 (tT 7)),
 oT 102 105 (.load false 1 (tT 104)),oT 102 106 (.bin .geq .num (tT 103) (tT 105)),oO 107 (.pick (tT 102) (tT 106) kF)]) (.cond (tT 107) (.exit 1) .skip)) (sQ (.draw [⟨0,oO 108 (.load true 4 (tT 13)),0,
 0,false⟩,⟨1,oM 109 14,0,0,false⟩,⟨2,oO 110 (kC 9 [(tT 108),(tT 109)]),3,0,false⟩,⟨3,oO 111 (.load true 1 (tT 15)),0,0,false⟩,⟨4,oO 112 (kC 13 [(tT 110),(tT 111)]),15,1,false⟩,⟨5,oO 113 (.una .not (tT 112)),
 31,1,false⟩]) (.cond (tT 113) (sQ (.region [oO 6 (.mov kF)]) .ret) .skip))))))) (.region [oM 56 14,oO 57 (.bin .add .num (tT 56) (kI 1)),oM 14 57])))))) (sQ (.draw [⟨0,oO 114 (.faddr 0 (tT 8)),0,0,false⟩,
 ⟨1,oO 115 (.load false 1 (tT 114)),1,0,false⟩,⟨2,oO 116 (.len (tT 115)),3,0,false⟩,⟨3,oO 117 (.faddr 0 (tT 7)),0,0,false⟩,⟨4,oO 118 (.load false 1 (tT 117)),8,0,false⟩,⟨5,oO 119 (kC 14 [(tT 118)]),24,0,
 false⟩,⟨6,oO 120 (.len (tT 119)),56,0,false⟩,⟨7,oO 121 (.bin .eql .num (tT 116) (tT 120)),127,1,false⟩,⟨8,oM 122 121,255,1,false⟩,⟨9,oT 122 123 (.faddr 0 (tT 8)),511,0,false⟩,⟨10,oT 122 124 (.load false 1 (tT 123)),
 1023,0,false⟩,⟨11,oT 122 125 (.faddr 1 (tT 10)),511,0,false⟩,⟨12,oT 122 126 (.load false 1 (tT 125)),2559,0,false⟩,⟨13,oT 122 127 (.faddr 1 (tT 10)),511,0,false⟩,⟨14,oT 122 128 (.load false 1 (tT 127)),
 8703,0,false⟩,⟨15,oT 122 129 (kC 15 [(tT 124),(tT 126),(tT 128)]),32767,1,false⟩,⟨16,oO 130 (.pick (tT 122) (tT 129) kF),65535,1,false⟩,⟨17,oM 6 130,131071,1,false⟩]) .ret))))))))))))
theorem ok3 : FnOk Tryz.prog 3 131 ir3 [.tmp 6] := fnOk_of mixed Tryz.func3 (by kernel_rfl) Tryz.ntmps3 (by kernel_rfl) (by kernel_rfl)

def ir5 : ACode := (sQ (.region [oO 0 (.mov kF)]) (sQ (.region [oO 2 (kC 26 []),oM 1 2]) (sQ (.draw [⟨0,oM 3 1,0,1,false⟩,⟨1,oO 4 (.iaddr 4 (tT 3) (kI 0)),1,1,false⟩,⟨2,oO 5 (.load true 4 (tT 4)),3,1,false⟩,
 ⟨3,oO 6 (.bslice [(.int .i64 0)] 2 [(0,(kI 1)),(1,(kI 2))]),0,0,false⟩,⟨4,oO 7 (kC 28 [(tT 6)]),8,0,false⟩,⟨5,oO 8 (kC 27 [(tT 5),(tT 7),(.const nS)]),31,1,false⟩,⟨6,oO 9 (.una .not (tT 8)),63,1,false⟩,
 ⟨7,oM 10 9,127,1,false⟩,⟨8,oT 10 11 (.mov (tT 1)),255,1,false⟩,⟨9,oT 10 12 (.iaddr 4 (tT 11) (kI 0)),511,1,false⟩,⟨10,oT 10 13 (.load true 4 (tT 12)),1023,1,false⟩,⟨11,oT 10 14 (.bslice [(.int .i64 0)] 2 [(0,
 (kI 1)),(1,(kI 3))]),255,0,false⟩,⟨12,oT 10 15 (kC 28 [(tT 14)]),2303,0,false⟩,⟨13,oT 10 16 (kC 27 [(tT 13),(tT 15),(.const nS)]),8191,1,false⟩,⟨14,oO 17 (.pick (tT 10) (tT 16) kF),16383,1,false⟩,⟨15,oM 18 17,
 32767,1,false⟩,⟨16,oT 18 19 (.mov (tT 1)),65535,1,false⟩,⟨17,oT 18 20 (.iaddr 4 (tT 19) (kI 1)),131071,1,false⟩,⟨18,oT 18 21 (.load true 4 (tT 20)),262143,1,false⟩,⟨19,oT 18 22 (.bslice [(.int .i64 0)] 1 [(0,
 (kI 1))]),65535,0,false⟩,⟨20,oT 18 23 (kC 28 [(tT 22)]),589823,0,false⟩,⟨21,oT 18 24 (kC 27 [(tT 21),(tT 23),(.const nS)]),2097151,1,false⟩,⟨22,oT 18 25 (.una .not (tT 24)),4194303,1,false⟩,⟨23,oO 26 (.pick (tT 18) (tT 25) kF),
 8388607,1,false⟩,⟨24,oM 27 26,16777215,1,false⟩,⟨25,oT 27 28 (.mov (tT 1)),33554431,1,false⟩,⟨26,oT 27 29 (.iaddr 4 (tT 28) (kI 1)),67108863,1,false⟩,⟨27,oT 27 30 (.load true 4 (tT 29)),134217727,1,false⟩,
 ⟨28,oT 27 31 (kC 28 [(.const nS)]),33554431,0,false⟩,⟨29,oT 27 32 (kC 27 [(tT 30),(tT 31),(.const nS)]),536870911,1,false⟩,⟨30,oO 33 (.pick (tT 27) (tT 32) kF),1073741823,1,false⟩,⟨31,oM 34 33,2147483647,
 1,false⟩,⟨32,oT 34 35 (.mov (tT 1)),4294967295,1,false⟩,⟨33,oT 34 36 (.iaddr 4 (tT 35) (kI 2)),8589934591,1,false⟩,⟨34,oT 34 37 (.load true 4 (tT 36)),17179869183,1,false⟩,⟨35,oT 34 38 (kC 28 [(.const nS)]),
 4294967295,0,false⟩,⟨36,oT 34 39 (.bslice [(.int .i64 0)] 3 [(0,(kI 0)),(1,(kI 1)),(2,(kI 1))]),4294967295,0,false⟩,⟨37,oT 34 40 (kC 27 [(tT 37),(tT 38),(tT 39)]),137438953471,1,false⟩,⟨38,oO 41 (.pick (tT 34) (tT 40) kF),
 274877906943,1,false⟩,⟨39,oM 0 41,549755813887,1,false⟩]) .ret)))
theorem ok5 : FnOk Tryz.prog 5 42 ir5 [.tmp 0] := fnOk_of mixed Tryz.func5 (by kernel_rfl) Tryz.ntmps5 (by kernel_rfl) (by kernel_rfl)

def ir6 : ACode := (sQ (.region [oO 1 (.box (tT 0)),oO 2 (.alloc [(.pointer none),(.pointer none),(.int .i64 0),(.int .i64 0)]),oO 3 (.alloc [nS,nS,(.int .i64 0),(.int .i64 0)]),oO 4 (.mov kF)]) (sQ (.region [oO 16 (.load true 4 (tT 1)),
 oO 17 (kC 29 [(tT 16)]),oO 5 (.alloc [nS,nS,(.int .i64 0),(.int .i64 0)]),⟨none,.store 4 (tT 5) (tT 17),none⟩]) (sQ (.region [oO 18 (kC 30 []),oM 6 18]) (sQ (sQ (.region [oO 19 (.faddr 0 (tT 5)),oO 20 (.load false 1 (tT 19)),
 oO 21 (.len (tT 20)),oO 22 (.mov (kI 0))]) (.block 0 (.loop (sQ (.region [oO 23 (.bin .lss .num (tT 22) (tT 21))]) (sQ (.cond (tT 23) .skip (.exit 0)) (sQ (.block 1 (sQ (.region [oO 24 (.iaddr 2 (tT 20) (tT 22)),
 oO 25 (.load true 2 (tT 24)),oO 8 (.alloc [(.int .i64 0),(.int .i64 0)]),⟨none,.store 2 (tT 8) (tT 25),none⟩]) (sQ (.region [oM 27 6,oO 28 (.iaddrA 2 1 (tT 8) (kI 0)),oO 29 (.load false 1 (tT 28)),oO 30 (.iaddrA 2 1 (tT 8) (kI 1)),
 oO 31 (.load false 1 (tT 30)),oO 32 (kC 31 [(tT 27),(tT 29),(tT 31)]),oM 26 32,oO 33 (.extract (tT 26) 0),oO 34 (.extract (tT 26) 1),oM 9 33,oM 10 34]) (sQ (sQ (.region [oM 35 10,oO 36 (.bin .neq .num (tT 35) (kI 0))]) (.cond (tT 36) (sQ (.draw [⟨0,
 oO 37 (.build [(.pointer none),(.pointer none),(.int .i64 0),(.int .i64 0)] []),0,0,false⟩,⟨1,oO 38 (.load true 4 (tT 5)),0,0,false⟩,⟨2,⟨none,.store 4 (tT 2) (tT 37),none⟩,1,2,false⟩,⟨3,⟨none,.store 4 (tT 3) (tT 38),
 none⟩,7,1,false⟩,⟨4,oO 4 (.mov kF),15,1,false⟩]) .ret) .skip)) (.region [oM 39 9,oM 6 39]))))) (.region [oO 40 (.bin .add .num (tT 22) (kI 1)),oM 22 40]))))))) (sQ (.region [oO 41 (kC 32 []),oM 11 41]) (sQ (sQ (.region [oO 42 (.faddr 1 (tT 5)),
 oO 43 (.load false 1 (tT 42)),oO 44 (.len (tT 43)),oO 45 (.mov (kI 0))]) (.block 2 (.loop (sQ (.region [oO 46 (.bin .lss .num (tT 45) (tT 44))]) (sQ (.cond (tT 46) .skip (.exit 2)) (sQ (.block 3 (sQ (.region [oO 47 (.iaddr 3 (tT 43) (tT 45)),
 oO 48 (.load true 3 (tT 47)),oO 13 (.alloc [(.int .i64 0),(.int .i64 0),(.int .i64 0)]),⟨none,.store 3 (tT 13) (tT 48),none⟩]) (sQ (.region [oM 50 11,oO 51 (.faddr 0 (tT 13)),oO 52 (.load false 1 (tT 51)),
 oO 53 (.faddr 1 (tT 13)),oO 54 (.load false 1 (tT 53)),oO 55 (.faddr 2 (tT 13)),oO 56 (.load false 1 (tT 55)),oO 57 (kC 8 [(tT 50),(tT 52),(tT 54),(tT 56)]),oM 49 57,oO 58 (.extract (tT 49) 0),oO 59 (.extract (tT 49) 1),
 oM 14 58,oM 15 59]) (sQ (sQ (.region [oM 60 15,oO 61 (.bin .neq .num (tT 60) (kI 0))]) (.cond (tT 61) (sQ (.draw [⟨0,oO 62 (.build [(.pointer none),(.pointer none),(.int .i64 0),(.int .i64 0)] []),0,0,
 false⟩,⟨1,oO 63 (.load true 4 (tT 5)),0,0,false⟩,⟨2,⟨none,.store 4 (tT 2) (tT 62),none⟩,1,2,false⟩,⟨3,⟨none,.store 4 (tT 3) (tT 63),none⟩,7,1,false⟩,⟨4,oO 4 (.mov kF),15,1,false⟩]) .ret) .skip)) (.region [oM 64 14,
 oM 11 64]))))) (.region [oO 65 (.bin .add .num (tT 45) (kI 1)),oM 45 65]))))))) (sQ (.draw [⟨0,oM 66 6,0,0,false⟩,⟨1,oM 67 11,0,0,false⟩,⟨2,oO 68 (.faddr 2 (tT 5)),0,0,false⟩,⟨3,oO 69 (.load false 1 (tT 68)),
 4,0,false⟩,⟨4,oO 70 (.faddr 3 (tT 5)),0,0,false⟩,⟨5,oO 71 (.load false 1 (tT 70)),16,0,false⟩,⟨6,oO 72 (.build [(.pointer none),(.pointer none),(.int .i64 0),(.int .i64 0)] [(0,1,(tT 66)),(1,1,(tT 67)),
 (2,1,(tT 69)),(3,1,(tT 71))]),63,0,false⟩,⟨7,oO 73 (.load true 4 (tT 5)),0,0,false⟩,⟨8,oM 74 6,0,0,false⟩,⟨9,oO 75 (.bin .neq .ptr (tT 74) (.const (.pointer none))),256,0,false⟩,⟨10,oM 76 75,768,0,false⟩,
 ⟨11,oT 76 77 (.mov (tT 11)),1792,0,false⟩,⟨12,oT 76 78 (.bin .neq .ptr (tT 77) (.const (.pointer none))),3840,0,false⟩,⟨13,oO 79 (.pick (tT 76) (tT 78) kF),7936,0,false⟩,⟨14,⟨none,.store 4 (tT 2) (tT 72),
 none⟩,1919,3838,false⟩,⟨15,⟨none,.store 4 (tT 3) (tT 73),none⟩,18431,1,false⟩,⟨16,oM 4 79,65535,1,false⟩]) .ret)))))))
theorem ok6 : FnOk Tryz.prog 6 80 ir6 [.cell 2 true 4, .cell 3 true 4, .tmp 4] := fnOk_of mixed Tryz.func6 (by kernel_rfl) Tryz.ntmps6 (by kernel_rfl) (by kernel_rfl)

def ir7 : ACode := (sQ (.region [oO 1 (.box (tT 0)),oO 2 (.alloc [(.int .i64 0),(.int .i64 0),(.int .i64 0)])]) (sQ (.region [oO 3 (.faddr 0 (tT 1)),oO 4 (.load false 1 (tT 3)),oO 5 (.bin .rem .num (tT 4) (.const (.int .u8 5))),
 oO 6 (.conv .i64 (tT 5)),oO 7 (.bin .add .num (kI 1) (tT 6)),oO 8 (.faddr 1 (tT 1)),oO 9 (.load false 1 (tT 8)),oO 10 (.bin .rem .num (tT 9) (.const (.int .u8 8))),oO 11 (.conv .i64 (tT 10)),oO 12 (.bin .add .num (kI 1) (tT 11)),
 oO 13 (.faddr 2 (tT 1)),oO 14 (.load false 1 (tT 13)),oO 15 (.bin .rem .num (tT 14) (.const (.int .u8 20))),oO 16 (.conv .i64 (tT 15)),oO 17 (.build [(.int .i64 0),(.int .i64 0),(.int .i64 0)] [(0,1,(tT 7)),
 (1,1,(tT 12)),(2,1,(tT 16))]),⟨none,.store 3 (tT 2) (tT 17),none⟩]) .ret))
theorem ok7 : FnOk Tryz.prog 7 18 ir7 [.cell 2 true 3] := fnOk_of mixed Tryz.func7 (by kernel_rfl) Tryz.ntmps7 (by kernel_rfl) (by kernel_rfl)

def ir8 : ACode := (sQ (.region [oO 8 (.mov (.const (.pointer none))),oO 9 (.mov (kI 0))]) (sQ (.block 0 (sQ (.region [oM 14 0,oO 15 (.bin .eql .ptr (tT 14) (.const (.pointer none))),oM 16 15,oF 16 17 (.mov (tT 1)),
 oF 16 18 (.bin .lss .num (tT 17) (kI 1)),oO 19 (.pick (tT 16) kT (tT 18)),oM 20 19,oF 20 21 (.mov (tT 1)),oF 20 22 (.bin .gtr .num (tT 21) (kI 256)),oO 23 (.pick (tT 20) kT (tT 22)),oM 24 23,oF 24 25 (.mov (tT 2)),
 oF 24 26 (.bin .lss .num (tT 25) (kI 1)),oO 27 (.pick (tT 24) kT (tT 26)),oM 28 27,oF 28 29 (.mov (tT 2)),oF 28 30 (.bin .gtr .num (tT 29) (kI 63)),oO 31 (.pick (tT 28) kT (tT 30)),oM 13 31]) (.cond (tT 13) (sQ (.region [oO 8 (.mov (.const (.pointer none))),
 oO 9 (.mov (kI 1))]) .ret) (sQ (.region [oM 33 3,oO 34 (.bin .lss .num (tT 33) (kI 0)),oM 35 34,oF 35 36 (.mov (tT 3)),oF 35 37 (.bin .gtr .num (tT 36) (kI 30000)),oO 38 (.pick (tT 35) kT (tT 37)),oM 32 38]) (.cond (tT 32) (sQ (.region [oO 8 (.mov (.const (.pointer none))),
 oO 9 (.mov (kI 2))]) .ret) .skip))))) (sQ (.region [oM 39 0,oO 40 (.nilck (tT 39)),oO 41 (.faddr 0 (tT 40)),oO 42 (.load false 1 (tT 41)),oO 43 (kC 33 [(tT 42)]),oM 10 43]) (sQ (.region [oM 45 0,oM 46 1,
 oM 47 2,oO 48 (kC 34 [(tT 45),(tT 46),(tT 47)]),oM 44 48,oO 49 (.extract (tT 44) 0),oO 50 (.extract (tT 44) 1),oM 11 49,oM 12 50]) (sQ (sQ (.region [oM 51 12]) (.cond (tT 51) (.region [oM 52 10,oM 53 11,
 oM 54 3,oO 55 (.iaddr 3 (tT 52) (tT 53)),oO 56 (.faddr 2 (tT 55)),⟨none,.store 1 (tT 56) (tT 54),none⟩]) (.region [oM 57 10,oM 58 11,oM 59 1,oM 60 2,oM 61 3,oO 62 (.build [(.int .i64 0),(.int .i64 0),(.int .i64 0)] [(0,
 1,(tT 59)),(1,1,(tT 60)),(2,1,(tT 61))]),oO 63 (.bslice [(.int .i64 0),(.int .i64 0),(.int .i64 0)] 1 [(0,(tT 62))]),oO 64 (kC 35 [(tT 57),(tT 58),(tT 63)]),oM 10 64]))) (sQ (.region [oM 65 10,oO 66 (.build [nS] [(0,
 1,(tT 65))]),oO 67 (.box (tT 66)),oM 8 67,oO 9 (.mov (kI 0))]) .ret))))))
theorem ok8 : FnOk Tryz.prog 8 68 ir8 [.tmp 8, .tmp 9] := fnOk_of mixed Tryz.func8 (by kernel_rfl) Tryz.ntmps8 (by kernel_rfl) (by kernel_rfl)

def ir9 : ACode := (sQ (.region [oO 2 (.box (tT 0)),oO 4 (.alloc [nS])]) (sQ (sQ (.region [oO 5 (.faddr 0 (tT 2)),oO 6 (.load false 1 (tT 5)),oO 7 (.bin .eql .ptr (tT 6) (.const (.pointer none))),oM 8 7,
 oF 8 9 (.faddr 1 (tT 2)),oF 8 10 (.load false 1 (tT 9)),oF 8 11 (.bin .eql .ptr (tT 10) (.const (.pointer none))),oO 12 (.pick (tT 8) kT (tT 11)),oM 13 12,oF 13 14 (.mov (tT 1)),oF 13 15 (.bin .lss .num (tT 14) (kI 1)),
 oO 16 (.pick (tT 13) kT (tT 15)),oM 17 16,oF 17 18 (.mov (tT 1)),oF 17 19 (.load true 4 (tT 2)),oF 17 20 (kC 36 [(tT 19)]),oF 17 21 (.bin .gtr .num (tT 18) (tT 20)),oO 22 (.pick (tT 17) kT (tT 21))]) (.cond (tT 22) (sQ (.region [oO 23 (.build [nS] []),
 ⟨none,.store 1 (tT 4) (tT 23),none⟩]) .ret) .skip)) (sQ (.draw [⟨0,oO 24 (.faddr 0 (tT 2)),0,0,false⟩,⟨1,oO 25 (.load false 1 (tT 24)),1,0,false⟩,⟨2,oO 26 (.faddr 1 (tT 2)),0,0,false⟩,⟨3,oO 27 (.load false 1 (tT 26)),
 4,0,false⟩,⟨4,oM 28 1,0,0,false⟩,⟨5,oO 29 (.faddr 3 (tT 2)),0,0,false⟩,⟨6,oO 30 (.load false 1 (tT 29)),32,0,false⟩,⟨7,oO 31 (kC 38 [(tT 27),(tT 28),(tT 30)]),124,0,false⟩,⟨8,oO 32 (kC 37 [(tT 25),(tT 31)]),
 255,1,false⟩,⟨9,⟨none,.store 1 (tT 4) (tT 32),none⟩,511,1,false⟩]) .ret)))
theorem ok9 : FnOk Tryz.prog 9 33 ir9 [.cell 4 true 1] := fnOk_of mixed Tryz.func9 (by kernel_rfl) Tryz.ntmps9 (by kernel_rfl) (by kernel_rfl)

def ir10 : ACode := (sQ (.region [oO 2 (.box (tT 0)),oO 3 (.box (tT 1)),oO 4 (.alloc [nS])]) (sQ (.region [oO 7 (.faddr 0 (tT 2)),oO 8 (.load false 1 (tT 7)),oO 9 (.len (tT 8)),oO 10 (.faddr 0 (tT 3)),
 oO 11 (.load false 1 (tT 10)),oO 12 (.len (tT 11)),oO 13 (.mx (tT 9) (tT 12)),oO 14 (.mslice [(.int .u64 0)] 8 (tT 13) (tT 13)),oM 5 14]) (sQ (sQ (.region [oM 15 5,oO 16 (.len (tT 15)),oO 17 (.mov (kI 0))]) (.block 0 (.loop (sQ (.region [oO 18 (.bin .lss .num (tT 17) (tT 16))]) (sQ (.cond (tT 18) .skip (.exit 0)) (sQ (.block 1 (sQ (.region [oM 19 17,
 oM 6 19]) (.draw [⟨0,oM 20 5,0,0,false⟩,⟨1,oM 21 6,0,0,false⟩,⟨2,oO 22 (.load true 1 (tT 2)),0,0,false⟩,⟨3,oM 23 6,0,0,false⟩,⟨4,oO 24 (kC 39 [(tT 22),(tT 23)]),12,0,false⟩,⟨5,oO 25 (.load true 1 (tT 3)),
 0,0,false⟩,⟨6,oM 26 6,0,0,false⟩,⟨7,oO 27 (kC 39 [(tT 25),(tT 26)]),124,1,false⟩,⟨8,oO 28 (.bin .or .num (tT 24) (tT 27)),252,1,false⟩,⟨9,oO 29 (.iaddr 1 (tT 20) (tT 21)),511,1,false⟩,⟨10,⟨none,.store 1 (tT 29) (tT 28),
 none⟩,1023,1,false⟩]))) (.region [oO 30 (.bin .add .num (tT 17) (kI 1)),oM 17 30]))))))) (sQ (.region [oM 31 5,oO 32 (.build [nS] [(0,1,(tT 31))]),⟨none,.store 1 (tT 4) (tT 32),none⟩]) .ret))))
theorem ok10 : FnOk Tryz.prog 10 33 ir10 [.cell 4 true 1] := fnOk_of mixed Tryz.func10 (by kernel_rfl) Tryz.ntmps10 (by kernel_rfl) (by kernel_rfl)

def ir11 : ACode := (sQ (.region [oO 4 (.alloc [nS])]) (sQ (sQ (.region [oM 5 0,oO 6 (.bin .eql .ptr (tT 5) (.const (.pointer none))),oM 7 6,oF 7 8 (.mov (tT 1)),oF 7 9 (kC 40 [(tT 8)]),oF 7 10 (.una .not (tT 9)),
 oO 11 (.pick (tT 7) kT (tT 10))]) (.cond (tT 11) (sQ (.region [oO 12 (.build [nS] []),⟨none,.store 1 (tT 4) (tT 12),none⟩]) .ret) .skip)) (sQ (.region [oM 13 0,oO 14 (.nilck (tT 13)),oO 15 (.faddr 0 (tT 14)),
 oO 16 (.load false 1 (tT 15)),oM 17 1,oO 18 (kC 41 [(tT 16),(tT 17)]),oM 19 1,oO 20 (kC 42 [(tT 18),(tT 19)]),⟨none,.store 1 (tT 4) (tT 20),none⟩]) .ret)))
theorem ok11 : FnOk Tryz.prog 11 21 ir11 [.cell 4 true 1] := fnOk_of mixed Tryz.func11 (by kernel_rfl) Tryz.ntmps11 (by kernel_rfl) (by kernel_rfl)

def ir12 : ACode := (sQ (.region [oO 6 (.mov (kI 0)),oO 7 (.mov kF)]) (sQ (.region [oM 11 0,oM 12 1,oM 13 2,oO 14 (kC 43 [(tT 11),(tT 12),(tT 13)]),oM 10 14,oO 15 (.extract (tT 10) 0),oO 16 (.extract (tT 10) 1),
 oM 8 15,oM 9 16]) (sQ (sQ (.region [oM 17 9,oO 18 (.una .not (tT 17))]) (.cond (tT 18) (sQ (.region [oO 6 (.mov (kI 0)),oO 7 (.mov kF)]) .ret) .skip)) (sQ (.region [oM 19 0,oO 20 (.nilck (tT 19)),oO 21 (.faddr 0 (tT 20)),
 oO 22 (.load false 1 (tT 21)),oM 23 8,oO 24 (.iaddr 3 (tT 22) (tT 23)),oO 25 (.faddr 2 (tT 24)),oO 26 (.load false 1 (tT 25)),oM 6 26,oO 7 (.mov kT)]) .ret))))
theorem ok12 : FnOk Tryz.prog 12 27 ir12 [.tmp 6, .tmp 7] := fnOk_of mixed Tryz.func12 (by kernel_rfl) Tryz.ntmps12 (by kernel_rfl) (by kernel_rfl)

def ir13 : ACode := (sQ (.region [oO 2 (.box (tT 0)),oO 3 (.box (tT 1)),oO 4 (.mov kF)]) (sQ (sQ (.region [oO 7 (.faddr 0 (tT 2)),oO 8 (.load false 1 (tT 7)),oO 9 (.len (tT 8)),oO 10 (.faddr 0 (tT 3)),
 oO 11 (.load false 1 (tT 10)),oO 12 (.len (tT 11)),oO 13 (.bin .neq .num (tT 9) (tT 12))]) (.cond (tT 13) (sQ (.region [oO 4 (.mov kF)]) .ret) .skip)) (sQ (sQ (.region [oO 14 (.faddr 0 (tT 2)),oO 15 (.load false 1 (tT 14)),
 oO 16 (.len (tT 15)),oO 17 (.mov (kI 0))]) (.block 0 (.loop (sQ (.region [oO 18 (.bin .lss .num (tT 17) (tT 16))]) (sQ (.cond (tT 18) .skip (.exit 0)) (sQ (.block 1 (sQ (.region [oM 19 17,oO 20 (.iaddr 1 (tT 15) (tT 17)),
 oO 21 (.load false 1 (tT 20)),oM 5 19,oM 6 21]) (sQ (.region [oM 22 6,oO 23 (.faddr 0 (tT 3)),oO 24 (.load false 1 (tT 23)),oM 25 5,oO 26 (.iaddr 1 (tT 24) (tT 25)),oO 27 (.load false 1 (tT 26)),oO 28 (.bin .neq .num (tT 22) (tT 27))]) (.cond (tT 28) (sQ (.region [oO 4 (.mov kF)]) .ret) .skip)))) (.region [oO 29 (.bin .add .num (tT 17) (kI 1)),
 oM 17 29]))))))) (sQ (.region [oO 4 (.mov kT)]) .ret))))
theorem ok13 : FnOk Tryz.prog 13 30 ir13 [.tmp 4] := fnOk_of mixed Tryz.func13 (by kernel_rfl) Tryz.ntmps13 (by kernel_rfl) (by kernel_rfl)

def ir14 : ACode := (sQ (.region [oO 2 (.mov (.const nS))]) (sQ (sQ (.region [oM 3 0,oO 4 (.bin .eql .ptr (tT 3) (.const (.pointer none)))]) (.cond (tT 4) (sQ (.region [oO 2 (.mov (.const nS))]) .ret) .skip)) (sQ (.region [oM 5 0,
 oO 6 (.nilck (tT 5)),oO 7 (.faddr 0 (tT 6)),oO 8 (.load false 1 (tT 7)),oO 9 (kC 44 [(tT 8)]),oM 2 9]) .ret)))
theorem ok14 : FnOk Tryz.prog 14 10 ir14 [.tmp 2] := fnOk_of mixed Tryz.func14 (by kernel_rfl) Tryz.ntmps14 (by kernel_rfl) (by kernel_rfl)

def ir15 : ACode := (sQ (.region [oO 6 (.mov kF)]) (sQ (.region [oM 7 2,oO 8 (kC 45 [(tT 7)]),oM 9 8,oT 9 10 (.mov (tT 0)),oT 9 11 (.mov (tT 1)),oT 9 12 (kC 46 [(tT 10),(tT 11)]),oT 9 13 (.mov (tT 2)),
 oT 9 14 (.bin .shr .num (tT 12) (tT 13)),oT 9 15 (.bin .rem .num (tT 14) (.const (.int .u64 2))),oT 9 16 (.bin .eql .num (tT 15) (.const (.int .u64 1))),oO 17 (.pick (tT 9) (tT 16) kF),oM 6 17]) .ret))
theorem ok15 : FnOk Tryz.prog 15 18 ir15 [.tmp 6] := fnOk_of mixed Tryz.func15 (by kernel_rfl) Tryz.ntmps15 (by kernel_rfl) (by kernel_rfl)

def ir26 : ACode := (sQ (.region [oO 0 (.mov (.const nS))]) (sQ (.region [oO 1 (.mov (.func 58))]) (sQ (.region [oO 2 (.mov (.func 59))]) (sQ (.region [oO 3 (.mov (.func 60))]) (sQ (.region [oM 5 2,oO 6 (.call (tT 5) [(kI 1)]),
 oM 7 2,oO 8 (.call (tT 7) [(kI 2)]),oO 9 (.bslice [(.int .u8 0),(.int .i64 0),nS,nS] 2 [(0,(tT 6)),(1,(tT 8))]),oO 10 (.build [(.int .u8 0),(.int .i64 0),nS,nS] [(0,1,(.const (.int .u8 16))),(3,1,(tT 9))]),
 oO 4 (.alloc [(.int .u8 0),(.int .i64 0),nS,nS]),⟨none,.store 4 (tT 4) (tT 10),none⟩]) (sQ (.draw [⟨0,oO 11 (.bslice [(.int .i64 0)] 2 [(0,(kI 1)),(1,(kI 2))]),0,0,false⟩,⟨1,oO 12 (.build [(.int .u8 0),
 (.int .i64 0),nS,nS] [(0,1,(.const (.int .u8 5))),(2,1,(tT 11))]),1,0,false⟩,⟨2,oM 13 1,0,0,false⟩,⟨3,oO 14 (.call (tT 13) [(kI 1)]),4,0,false⟩,⟨4,oO 15 (.bslice [(.int .u8 0),(.int .i64 0),nS,nS] 2 [(0,
 (tT 12)),(1,(tT 14))]),15,0,false⟩,⟨5,oO 16 (.build [(.int .u8 0),(.int .i64 0),nS,nS] [(0,1,(.const (.int .u8 11))),(3,1,(tT 15))]),31,0,false⟩,⟨6,oM 17 3,0,0,false⟩,⟨7,oO 18 (.call (tT 17) [(kI 1)]),
 76,0,false⟩,⟨8,oM 19 3,0,0,false⟩,⟨9,oO 20 (.call (tT 19) [(kI 2)]),460,0,false⟩,⟨10,oO 21 (.bslice [(.int .u8 0),(.int .i64 0),nS,nS] 2 [(0,(tT 18)),(1,(tT 20))]),972,0,false⟩,⟨11,oO 22 (.build [(.int .u8 0),
 (.int .i64 0),nS,nS] [(0,1,(.const (.int .u8 10))),(3,1,(tT 21))]),1996,0,false⟩,⟨12,oO 23 (.load true 4 (tT 4)),0,1,false⟩,⟨13,oM 24 1,0,0,false⟩,⟨14,oO 25 (.call (tT 24) [(kI 3)]),9164,0,false⟩,⟨15,oO 26 (.bslice [(.int .u8 0),
 (.int .i64 0),nS,nS] 2 [(0,(tT 23)),(1,(tT 25))]),29644,1,false⟩,⟨16,oO 27 (.build [(.int .u8 0),(.int .i64 0),nS,nS] [(0,1,(.const (.int .u8 12))),(3,1,(tT 26))]),62412,1,false⟩,⟨17,oO 28 (.bslice [(.int .u8 0),
 (.int .i64 0),nS,nS] 3 [(0,(tT 16)),(1,(tT 22)),(2,(tT 27))]),131071,1,false⟩,⟨18,oM 0 28,262143,1,false⟩]) .ret))))))
theorem ok26 : FnOk Tryz.prog 26 29 ir26 [.tmp 0] := fnOk_of mixed Tryz.func26 (by kernel_rfl) Tryz.ntmps26 (by kernel_rfl) (by kernel_rfl)

def ir27 : ACode := (sQ (.region [oO 3 (.box (tT 0)),oO 4 (.box (tT 1)),oO 6 (.mov kF)]) (sQ (.region [oO 10 (.load true 4 (tT 3)),oO 11 (kC 61 [(tT 10)]),oM 9 11,oO 12 (.extract (tT 9) 0),oO 13 (.extract (tT 9) 1),
 oM 7 12,oM 8 13]) (sQ (.region [oM 14 8,oO 15 (.bin .eql .num (tT 14) (kI 0)),oM 16 15,oT 16 17 (.mov (tT 7)),oT 16 18 (.bin .eql .num (tT 17) (.const (.int .u8 1))),oO 19 (.pick (tT 16) (tT 18) kF),oM 20 19,
 oT 20 21 (.load true 1 (tT 4)),oT 20 22 (.mov (tT 2)),oT 20 23 (.build [nS,nS] [(0,1,(tT 21)),(1,1,(tT 22))]),oT 20 24 (.load true 4 (tT 3)),oT 20 25 (kC 62 [(tT 23),(tT 24)]),oT 20 26 (.bin .eql .num (tT 25) (kI 1)),
 oO 27 (.pick (tT 20) (tT 26) kF),oM 6 27]) .ret)))
theorem ok27 : FnOk Tryz.prog 27 28 ir27 [.tmp 6] := fnOk_of mixed Tryz.func27 (by kernel_rfl) Tryz.ntmps27 (by kernel_rfl) (by kernel_rfl)

def ir28 : ACode := (sQ (.region [oO 2 (.alloc [nS])]) (sQ (.region [oO 3 (.mov (.const (.int .i64 (-1))))]) (sQ (sQ (.region [oM 9 0,oO 10 (.len (tT 9)),oO 11 (.mov (kI 0))]) (.block 0 (.loop (sQ (.region [oO 12 (.bin .lss .num (tT 11) (tT 10))]) (sQ (.cond (tT 12) .skip (.exit 0)) (sQ (.block 1 (sQ (.region [oO 13 (.iaddr 1 (tT 9) (tT 11)),
 oO 14 (.load false 1 (tT 13)),oM 5 14]) (sQ (.region [oM 15 5,oO 16 (.bin .leq .num (tT 15) (kI 4095))]) (.cond (tT 16) (.region [oM 17 3,oM 18 5,oO 19 (.mx (tT 17) (tT 18)),oM 3 19]) .skip)))) (.region [oO 20 (.bin .add .num (tT 11) (kI 1)),
 oM 11 20]))))))) (sQ (sQ (.region [oM 21 3,oO 22 (.bin .lss .num (tT 21) (kI 0))]) (.cond (tT 22) (sQ (.region [oO 23 (.build [nS] []),⟨none,.store 1 (tT 2) (tT 23),none⟩]) .ret) .skip)) (sQ (.region [oM 24 3,
 oO 25 (.bin .quo .num (tT 24) (kI 64)),oO 26 (.bin .add .num (tT 25) (kI 1)),oO 27 (.mslice [(.int .u64 0)] 8 (tT 26) (tT 26)),oM 6 27]) (sQ (sQ (.region [oM 28 0,oO 29 (.len (tT 28)),oO 30 (.mov (kI 0))]) (.block 2 (.loop (sQ (.region [oO 31 (.bin .lss .num (tT 30) (tT 29))]) (sQ (.cond (tT 31) .skip (.exit 2)) (sQ (.block 3 (sQ (.region [oO 32 (.iaddr 1 (tT 28) (tT 30)),
 oO 33 (.load false 1 (tT 32)),oM 8 33]) (sQ (.region [oM 34 8,oO 35 (.bin .geq .num (tT 34) (kI 0)),oM 36 35,oT 36 37 (.mov (tT 8)),oT 36 38 (.mov (tT 3)),oT 36 39 (.bin .leq .num (tT 37) (tT 38)),oO 40 (.pick (tT 36) (tT 39) kF)]) (.cond (tT 40) (.draw [⟨0,
 oM 41 6,0,1,false⟩,⟨1,oM 42 8,0,1,false⟩,⟨2,oO 43 (.bin .quo .num (tT 42) (kI 64)),2,1,false⟩,⟨3,oO 44 (.iaddr 1 (tT 41) (tT 43)),7,1,false⟩,⟨4,oO 45 (.load false 1 (tT 44)),15,1,false⟩,⟨5,oM 46 8,0,0,
 false⟩,⟨6,oO 47 (.bin .rem .num (tT 46) (kI 64)),32,0,false⟩,⟨7,oO 48 (.bin .shl .num (.const (.int .u64 1)) (tT 47)),96,0,false⟩,⟨8,oO 49 (.bin .or .num (tT 45) (tT 48)),255,1,false⟩,⟨9,oO 50 (.iaddr 1 (tT 41) (tT 43)),
 511,1,false⟩,⟨10,⟨none,.store 1 (tT 50) (tT 49),none⟩,1023,1,false⟩]) .skip)))) (.region [oO 51 (.bin .add .num (tT 30) (kI 1)),oM 30 51]))))))) (sQ (.region [oM 52 6,oO 53 (kC 63 [(tT 52)]),⟨none,.store 1 (tT 2) (tT 53),
 none⟩]) .ret)))))))
theorem ok28 : FnOk Tryz.prog 28 54 ir28 [.cell 2 true 1] := fnOk_of mixed Tryz.func28 (by kernel_rfl) Tryz.ntmps28 (by kernel_rfl) (by kernel_rfl)

def ir29 : ACode := (sQ (.region [oO 1 (.box (tT 0)),oO 2 (.alloc [nS,nS,(.int .i64 0),(.int .i64 0)])]) (sQ (.draw [⟨0,oO 3 (.faddr 0 (tT 1)),0,0,false⟩,⟨1,oO 4 (.load false 1 (tT 3)),1,0,false⟩,⟨2,oO 5 (kC 64 [(tT 4)]),
 3,0,false⟩,⟨3,oO 6 (.faddr 1 (tT 1)),0,0,false⟩,⟨4,oO 7 (.load false 1 (tT 6)),8,0,false⟩,⟨5,oO 8 (kC 65 [(tT 7)]),31,0,false⟩,⟨6,oO 9 (.faddr 2 (tT 1)),0,0,false⟩,⟨7,oO 10 (.load false 1 (tT 9)),64,0,
 false⟩,⟨8,oO 11 (.bin .rem .num (tT 10) (.const (.int .u8 6))),192,0,false⟩,⟨9,oO 12 (.conv .i64 (tT 11)),448,0,false⟩,⟨10,oO 13 (.faddr 3 (tT 1)),0,0,false⟩,⟨11,oO 14 (.load false 1 (tT 13)),1024,0,false⟩,
 ⟨12,oO 15 (.bin .rem .num (tT 14) (.const (.int .u8 24))),3072,0,false⟩,⟨13,oO 16 (.conv .i64 (tT 15)),7168,0,false⟩,⟨14,oO 17 (.build [nS,nS,(.int .i64 0),(.int .i64 0)] [(0,1,(tT 5)),(1,1,(tT 8)),(2,
 1,(tT 12)),(3,1,(tT 16))]),16383,1,false⟩,⟨15,⟨none,.store 4 (tT 2) (tT 17),none⟩,32767,1,false⟩]) .ret))
theorem ok29 : FnOk Tryz.prog 29 18 ir29 [.cell 2 true 4] := fnOk_of mixed Tryz.func29 (by kernel_rfl) Tryz.ntmps29 (by kernel_rfl) (by kernel_rfl)

def ir30 : ACode := (sQ (.region [oO 0 (.mov (.const (.pointer none)))]) (sQ (.region [oO 4 (kC 66 [(kI 64),(.const nS)]),oM 3 4,oO 5 (.extract (tT 3) 0),oO 6 (.extract (tT 3) 1),oM 1 5,oM 2 6]) (sQ (.region [oM 7 1,
 oO 8 (.build [(.pointer none)] [(0,1,(tT 7))]),oO 9 (.box (tT 8)),oM 0 9]) .ret)))
theorem ok30 : FnOk Tryz.prog 30 10 ir30 [.tmp 0] := fnOk_of mixed Tryz.func30 (by kernel_rfl) Tryz.ntmps30 (by kernel_rfl) (by kernel_rfl)

def ir31 : ACode := (sQ (.region [oO 6 (.mov (.const (.pointer none))),oO 7 (.mov (kI 0))]) (sQ (sQ (.region [oM 10 0,oO 11 (.bin .eql .ptr (tT 10) (.const (.pointer none))),oM 12 11,oF 12 13 (.mov (tT 1)),
 oF 12 14 (kC 40 [(tT 13)]),oF 12 15 (.una .not (tT 14)),oO 16 (.pick (tT 12) kT (tT 15)),oM 17 16,oF 17 18 (.mov (tT 2)),oF 17 19 (kC 40 [(tT 18)]),oF 17 20 (.una .not (tT 19)),oO 21 (.pick (tT 17) kT (tT 20)),
 oM 22 21,oF 22 23 (.mov (tT 1)),oF 22 24 (.mov (tT 2)),oF 22 25 (.bin .eql .num (tT 23) (tT 24)),oO 26 (.pick (tT 22) kT (tT 25))]) (.cond (tT 26) (sQ (.region [oO 6 (.mov (.const (.pointer none))),oO 7 (.mov (kI 1))]) .ret) .skip)) (sQ (.region [oM 28 0,
 oO 29 (.nilck (tT 28)),oO 30 (.faddr 0 (tT 29)),oO 31 (.load false 1 (tT 30)),oM 32 1,oM 33 2,oO 34 (kC 67 [(tT 31),(tT 32),(tT 33)]),oM 27 34,oO 35 (.extract (tT 27) 0),oO 36 (.extract (tT 27) 1),oM 8 35,
 oM 9 36]) (sQ (sQ (.region [oM 37 9,oO 38 (.bin .neq .num (tT 37) (kI 0))]) (.cond (tT 38) (sQ (.region [oM 39 9,oO 6 (.mov (.const (.pointer none))),oM 7 39]) .ret) .skip)) (sQ (.region [oM 40 8,oO 41 (.build [(.pointer none)] [(0,
 1,(tT 40))]),oO 42 (.box (tT 41)),oM 6 42,oO 7 (.mov (kI 0))]) .ret)))))
theorem ok31 : FnOk Tryz.prog 31 43 ir31 [.tmp 6, .tmp 7] := fnOk_of mixed Tryz.func31 (by kernel_rfl) Tryz.ntmps31 (by kernel_rfl) (by kernel_rfl)

def ir32 : ACode := (sQ (.region [oO 0 (.mov (.const (.pointer none)))]) (sQ (.region [oO 1 (.build [nS] []),oO 2 (.box (tT 1)),oM 0 2]) .ret))
theorem ok32 : FnOk Tryz.prog 32 3 ir32 [.tmp 0] := fnOk_of mixed Tryz.func32 (by kernel_rfl) Tryz.ntmps32 (by kernel_rfl) (by kernel_rfl)

def ir33 : ACode := (sQ (.region [oO 2 (.mov (.const nS))]) (sQ (sQ (.region [oM 3 0,oO 4 (.isnil false (tT 3))]) (.cond (tT 4) (sQ (.region [oO 2 (.mov (.const nS))]) .ret) .skip)) (sQ (.region [oO 5 (.bslice [(.int .i64 0),
 (.int .i64 0),(.int .i64 0)] 0 []),oM 6 0,oO 7 (.append [(.int .i64 0),(.int .i64 0),(.int .i64 0)] 24 (tT 5) (tT 6)),oM 2 7]) .ret)))
theorem ok33 : FnOk Tryz.prog 33 8 ir33 [.tmp 2] := fnOk_of mixed Tryz.func33 (by kernel_rfl) Tryz.ntmps33 (by kernel_rfl) (by kernel_rfl)

def ir34 : ACode := (sQ (.region [oO 6 (.mov (kI 0)),oO 7 (.mov kF)]) (sQ (.region [oM 8 0,oO 9 (.nilck (tT 8)),oO 10 (.faddr 0 (tT 9)),oO 11 (.load false 1 (tT 10)),oM 12 1,oM 13 2,oO 14 (.build [(.int .i64 0),
 (.int .i64 0),(.int .i64 0)] [(0,1,(tT 12)),(1,1,(tT 13))]),oO 15 (kC 68 [(tT 11),(tT 14),(.func 69)]),oO 16 (.extract (tT 15) 0),oO 17 (.extract (tT 15) 1),oM 6 16,oM 7 17]) .ret))
theorem ok34 : FnOk Tryz.prog 34 18 ir34 [.tmp 6, .tmp 7] := fnOk_of mixed Tryz.func34 (by kernel_rfl) Tryz.ntmps34 (by kernel_rfl) (by kernel_rfl)

def ir35 : ACode := (sQ (.region [oO 6 (.mov (.const nS))]) (sQ (.region [oM 10 0,oM 11 1,oO 12 (.slc 3 (tT 10) (some (tT 11)) none none)]) (sQ (.region [oM 13 2,oO 14 (.len (tT 13)),oM 7 14]) (sQ (sQ (.region [oM 15 7,
 oO 16 (.bin .eql .num (tT 15) (kI 0))]) (.cond (tT 16) (sQ (.region [oM 17 0,oM 6 17]) .ret) .skip)) (sQ (.region [oM 18 0,oO 19 (.len (tT 18)),oM 8 19]) (sQ (sQ (.region [oM 20 1,oM 21 8,oO 22 (.bin .eql .num (tT 20) (tT 21))]) (.cond (tT 22) (sQ (.region [oM 23 0,
 oM 24 2,oO 25 (.append [(.int .i64 0),(.int .i64 0),(.int .i64 0)] 24 (tT 23) (tT 24)),oM 6 25]) .ret) .skip)) (sQ (sQ (.region [oM 26 8,oM 27 7,oO 28 (.bin .add .num (tT 26) (tT 27)),oM 29 0,oO 30 (.cap (tT 29)),
 oO 31 (.bin .gtr .num (tT 28) (tT 30))]) (.cond (tT 31) (sQ (.region [oM 32 0,oM 33 1,oO 34 (.slc 3 (tT 32) none (some (tT 33)) none),oM 35 8,oM 36 7,oO 37 (.bin .add .num (tT 35) (tT 36)),oM 38 1,oO 39 (.bin .sub .num (tT 37) (tT 38)),
 oO 40 (.appz [(.int .i64 0),(.int .i64 0),(.int .i64 0)] 24 (tT 34) (tT 39)),oM 9 40]) (sQ (.region [oM 41 9,oM 42 1,oO 43 (.slc 3 (tT 41) (some (tT 42)) none none),oM 44 2,oO 45 (.copy 3 (tT 43) (tT 44))]) (sQ (.draw [⟨0,
 oM 46 9,0,0,false⟩,⟨1,oM 47 1,0,0,false⟩,⟨2,oM 48 7,0,0,false⟩,⟨3,oO 49 (.bin .add .num (tT 47) (tT 48)),6,0,false⟩,⟨4,oO 50 (.slc 3 (tT 46) (some (tT 49)) none none),15,0,false⟩,⟨5,oM 51 0,0,0,false⟩,
 ⟨6,oM 52 1,0,0,false⟩,⟨7,oO 53 (.slc 3 (tT 51) (some (tT 52)) none none),96,0,false⟩,⟨8,oO 54 (.copy 3 (tT 50) (tT 53)),255,1,false⟩]) (sQ (.region [oM 55 9,oM 6 55]) .ret)))) .skip)) (sQ (.region [oM 56 0,
 oM 57 8,oM 58 7,oO 59 (.bin .add .num (tT 57) (tT 58)),oO 60 (.slc 3 (tT 56) none (some (tT 59)) none),oM 0 60]) (sQ (sQ (.region [oM 61 2,oM 62 0,oM 63 1,oM 64 7,oO 65 (.bin .add .num (tT 63) (tT 64)),
 oO 66 (.slc 3 (tT 62) (some (tT 65)) none none),oO 67 (kC 70 [(tT 61),(tT 66)]),oO 68 (.una .not (tT 67))]) (.cond (tT 68) (sQ (.draw [⟨0,oM 69 0,0,0,false⟩,⟨1,oM 70 1,0,0,false⟩,⟨2,oM 71 7,0,0,false⟩,
 ⟨3,oO 72 (.bin .add .num (tT 70) (tT 71)),6,0,false⟩,⟨4,oO 73 (.slc 3 (tT 69) (some (tT 72)) none none),15,0,false⟩,⟨5,oM 74 0,0,0,false⟩,⟨6,oM 75 1,0,0,false⟩,⟨7,oO 76 (.slc 3 (tT 74) (some (tT 75)) none none),
 96,0,false⟩,⟨8,oO 77 (.copy 3 (tT 73) (tT 76)),255,1,false⟩]) (sQ (.region [oM 78 0,oM 79 1,oO 80 (.slc 3 (tT 78) (some (tT 79)) none none),oM 81 2,oO 82 (.copy 3 (tT 80) (tT 81))]) (sQ (.region [oM 83 0,
 oM 6 83]) .ret))) .skip)) (sQ (.region [oM 84 0,oM 85 8,oO 86 (.slc 3 (tT 84) (some (tT 85)) none none),oM 87 2,oO 88 (.copy 3 (tT 86) (tT 87))]) (sQ (.region [oM 89 0,oM 90 1,oO 91 (.slc 3 (tT 89) (some (tT 90)) none none),
 oM 92 7,oO 93 (kC 71 [(tT 91),(tT 92)])]) (sQ (.region [oM 94 0,oM 6 94]) .ret))))))))))))
theorem ok35 : FnOk Tryz.prog 35 95 ir35 [.tmp 6] := fnOk_of mixed Tryz.func35 (by kernel_rfl) Tryz.ntmps35 (by kernel_rfl) (by kernel_rfl)

def ir36 : ACode := (sQ (.region [oO 1 (.box (tT 0)),oO 2 (.mov (kI 0))]) (sQ (.region [oO 3 (.faddr 2 (tT 1)),oO 4 (.load false 1 (tT 3)),oO 5 (.mx (tT 4) (kI 0)),oO 6 (.mn (tT 5) (kI 256)),oM 2 6]) .ret))
theorem ok36 : FnOk Tryz.prog 36 7 ir36 [.tmp 2] := fnOk_of mixed Tryz.func36 (by kernel_rfl) Tryz.ntmps36 (by kernel_rfl) (by kernel_rfl)

def ir37 : ACode := (sQ (.region [oO 2 (.box (tT 0)),oO 3 (.box (tT 1)),oO 4 (.alloc [nS])]) (sQ (.region [oO 5 (.alloc [nS])]) (sQ (sQ (.region [oO 7 (.load true 1 (tT 3)),oO 8 (kC 52 [(tT 7)])]) (.block 0 (.range (tT 8) [9] [(6,
 (tT 9))] (.block 1 (.draw [⟨0,oO 10 (.load true 1 (tT 5)),0,0,false⟩,⟨1,oO 11 (.load false 1 (tT 2)),0,0,false⟩,⟨2,oM 12 6,0,0,false⟩,⟨3,oO 13 (kC 11 [(tT 11),(tT 12)]),6,0,false⟩,⟨4,oO 14 (kC 10 [(tT 10),
 (tT 13)]),15,1,false⟩,⟨5,⟨none,.store 1 (tT 5) (tT 14),none⟩,31,1,false⟩]))))) (sQ (.region [oO 15 (.load true 1 (tT 5)),⟨none,.store 1 (tT 4) (tT 15),none⟩]) .ret))))
theorem ok37 : FnOk Tryz.prog 37 16 ir37 [.cell 4 true 1] := fnOk_of mixed Tryz.func37 (by kernel_rfl) Tryz.ntmps37 (by kernel_rfl) (by kernel_rfl)

def ir38 : ACode := (sQ (.region [oO 6 (.alloc [nS])]) (sQ (.region [oO 7 (.alloc [nS])]) (sQ (sQ (.region [oM 10 0,oO 11 (.bin .eql .ptr (tT 10) (.const (.pointer none)))]) (.cond (tT 11) (sQ (.region [oO 12 (.load true 1 (tT 7)),
 ⟨none,.store 1 (tT 6) (tT 12),none⟩]) .ret) .skip)) (sQ (sQ (.region [oM 13 0,oO 14 (.nilck (tT 13)),oO 15 (.faddr 0 (tT 14)),oO 16 (.load false 1 (tT 15)),oO 17 (.len (tT 16)),oO 18 (.mov (kI 0))]) (.block 0 (.loop (sQ (.region [oO 19 (.bin .lss .num (tT 18) (tT 17))]) (sQ (.cond (tT 19) .skip (.exit 0)) (sQ (.block 1 (sQ (.region [oO 20 (.iaddr 3 (tT 16) (tT 18)),
 oO 21 (.load true 3 (tT 20)),oO 9 (.alloc [(.int .i64 0),(.int .i64 0),(.int .i64 0)]),⟨none,.store 3 (tT 9) (tT 21),none⟩]) (sQ (.region [oO 22 (.faddr 0 (tT 9)),oO 23 (.load false 1 (tT 22)),oM 24 1,
 oO 25 (.bin .eql .num (tT 23) (tT 24)),oM 26 25,oT 26 27 (.load true 3 (tT 9)),oT 26 28 (.mov (tT 2)),oT 26 29 (kC 72 [(tT 27),(tT 28)]),oO 30 (.pick (tT 26) (tT 29) kF)]) (.cond (tT 30) (.region [oO 31 (.load true 1 (tT 7)),
 oO 32 (.faddr 1 (tT 9)),oO 33 (.load false 1 (tT 32)),oO 34 (kC 42 [(tT 31),(tT 33)]),⟨none,.store 1 (tT 7) (tT 34),none⟩]) .skip)))) (.region [oO 35 (.bin .add .num (tT 18) (kI 1)),oM 18 35]))))))) (sQ (.region [oO 36 (.load true 1 (tT 7)),
 ⟨none,.store 1 (tT 6) (tT 36),none⟩]) .ret)))))
theorem ok38 : FnOk Tryz.prog 38 37 ir38 [.cell 6 true 1] := fnOk_of mixed Tryz.func38 (by kernel_rfl) Tryz.ntmps38 (by kernel_rfl) (by kernel_rfl)

def ir39 : ACode := (sQ (.region [oO 2 (.box (tT 0)),oO 4 (.mov (.const (.int .u64 0)))]) (sQ (sQ (.region [oM 5 1,oO 6 (.faddr 0 (tT 2)),oO 7 (.load false 1 (tT 6)),oO 8 (.len (tT 7)),oO 9 (.bin .lss .num (tT 5) (tT 8))]) (.cond (tT 9) (sQ (.region [oO 10 (.faddr 0 (tT 2)),
 oO 11 (.load false 1 (tT 10)),oM 12 1,oO 13 (.iaddr 1 (tT 11) (tT 12)),oO 14 (.load false 1 (tT 13)),oM 4 14]) .ret) .skip)) (sQ (.region [oO 4 (.mov (.const (.int .u64 0)))]) .ret)))
theorem ok39 : FnOk Tryz.prog 39 15 ir39 [.tmp 4] := fnOk_of mixed Tryz.func39 (by kernel_rfl) Tryz.ntmps39 (by kernel_rfl) (by kernel_rfl)

def ir40 : ACode := (sQ (.region [oO 2 (.mov kF)]) (sQ (.region [oM 3 0,oO 4 (.bin .geq .num (tT 3) (kI 1)),oM 5 4,oT 5 6 (.mov (tT 0)),oT 5 7 (.bin .leq .num (tT 6) (kI 63)),oO 8 (.pick (tT 5) (tT 7) kF),
 oM 2 8]) .ret))
theorem ok40 : FnOk Tryz.prog 40 9 ir40 [.tmp 2] := fnOk_of mixed Tryz.func40 (by kernel_rfl) Tryz.ntmps40 (by kernel_rfl) (by kernel_rfl)

def ir41 : ACode := (sQ (.region [oO 4 (.alloc [nS])]) (sQ (sQ (.region [oM 5 0,oM 6 1,oO 7 (kC 73 [(tT 5),(tT 6)]),oO 8 (.una .not (tT 7))]) (.cond (tT 8) (sQ (.region [oO 9 (.build [nS] []),⟨none,.store 1 (tT 4) (tT 9),
 none⟩]) .ret) .skip)) (sQ (.region [oM 10 0,oO 11 (.nilck (tT 10)),oO 12 (.faddr 3 (tT 11)),oO 13 (.load false 1 (tT 12)),oM 14 1,oO 15 (.iaddr 1 (tT 13) (tT 14)),oO 16 (.load true 1 (tT 15)),⟨none,.store 1 (tT 4) (tT 16),
 none⟩]) .ret)))
theorem ok41 : FnOk Tryz.prog 41 17 ir41 [.cell 4 true 1] := fnOk_of mixed Tryz.func41 (by kernel_rfl) Tryz.ntmps41 (by kernel_rfl) (by kernel_rfl)

def ir42 : ACode := (sQ (.region [oO 2 (.box (tT 0)),oO 4 (.alloc [nS])]) (sQ (sQ (.region [oM 6 1,oO 7 (.bin .lss .num (tT 6) (kI 0)),oM 8 7,oF 8 9 (.mov (tT 1)),oF 8 10 (.bin .gtr .num (tT 9) (kI 4095)),
 oO 11 (.pick (tT 8) kT (tT 10)),oM 12 11,oF 12 13 (.load true 1 (tT 2)),oF 12 14 (.mov (tT 1)),oF 12 15 (kC 74 [(tT 13),(tT 14)]),oO 16 (.pick (tT 12) kT (tT 15))]) (.cond (tT 16) (sQ (.region [oO 17 (.load true 1 (tT 2)),
 ⟨none,.store 1 (tT 4) (tT 17),none⟩]) .ret) .skip)) (sQ (.region [oO 18 (.faddr 0 (tT 2)),oO 19 (.load false 1 (tT 18)),oO 20 (.len (tT 19)),oM 21 1,oO 22 (.bin .quo .num (tT 21) (kI 64)),oO 23 (.bin .add .num (tT 22) (kI 1)),
 oO 24 (.mx (tT 20) (tT 23)),oO 25 (.mslice [(.int .u64 0)] 8 (tT 24) (tT 24)),oM 5 25]) (sQ (.region [oM 26 5,oO 27 (.faddr 0 (tT 2)),oO 28 (.load false 1 (tT 27)),oO 29 (.copy 1 (tT 26) (tT 28))]) (sQ (.draw [⟨0,
 oM 30 5,0,1,false⟩,⟨1,oM 31 1,0,1,false⟩,⟨2,oO 32 (.bin .quo .num (tT 31) (kI 64)),2,1,false⟩,⟨3,oO 33 (.iaddr 1 (tT 30) (tT 32)),7,1,false⟩,⟨4,oO 34 (.load false 1 (tT 33)),15,1,false⟩,⟨5,oM 35 1,0,0,
 false⟩,⟨6,oO 36 (.bin .rem .num (tT 35) (kI 64)),32,0,false⟩,⟨7,oO 37 (.bin .shl .num (.const (.int .u64 1)) (tT 36)),96,0,false⟩,⟨8,oO 38 (.bin .or .num (tT 34) (tT 37)),255,1,false⟩,⟨9,oO 39 (.iaddr 1 (tT 30) (tT 32)),
 511,1,false⟩,⟨10,⟨none,.store 1 (tT 39) (tT 38),none⟩,1023,1,false⟩]) (sQ (.region [oM 40 5,oO 41 (.build [nS] [(0,1,(tT 40))]),⟨none,.store 1 (tT 4) (tT 41),none⟩]) .ret))))))
theorem ok42 : FnOk Tryz.prog 42 42 ir42 [.cell 4 true 1] := fnOk_of mixed Tryz.func42 (by kernel_rfl) Tryz.ntmps42 (by kernel_rfl) (by kernel_rfl)

def ir43 : ACode := (sQ (.region [oO 6 (.mov (kI 0)),oO 7 (.mov kF)]) (sQ (sQ (.region [oM 8 0,oO 9 (.bin .eql .ptr (tT 8) (.const (.pointer none))),oM 10 9,oF 10 11 (.mov (tT 1)),oF 10 12 (.bin .lss .num (tT 11) (kI 1)),
 oO 13 (.pick (tT 10) kT (tT 12)),oM 14 13,oF 14 15 (.mov (tT 1)),oF 14 16 (.bin .gtr .num (tT 15) (kI 256)),oO 17 (.pick (tT 14) kT (tT 16)),oM 18 17,oF 18 19 (.mov (tT 2)),oF 18 20 (.bin .lss .num (tT 19) (kI 1)),
 oO 21 (.pick (tT 18) kT (tT 20)),oM 22 21,oF 22 23 (.mov (tT 2)),oF 22 24 (.bin .gtr .num (tT 23) (kI 63)),oO 25 (.pick (tT 22) kT (tT 24))]) (.cond (tT 25) (sQ (.region [oO 6 (.mov (kI 0)),oO 7 (.mov kF)]) .ret) .skip)) (sQ (.region [oM 26 0,
 oM 27 1,oM 28 2,oO 29 (kC 34 [(tT 26),(tT 27),(tT 28)]),oO 30 (.extract (tT 29) 0),oO 31 (.extract (tT 29) 1),oM 6 30,oM 7 31]) .ret)))
theorem ok43 : FnOk Tryz.prog 43 32 ir43 [.tmp 6, .tmp 7] := fnOk_of mixed Tryz.func43 (by kernel_rfl) Tryz.ntmps43 (by kernel_rfl) (by kernel_rfl)

def ir44 : ACode := (sQ (.region [oO 2 (.mov (.const nS))]) (sQ (sQ (.region [oM 3 0,oO 4 (.bin .eql .ptr (tT 3) (.const (.pointer none)))]) (.cond (tT 4) (sQ (.region [oO 2 (.mov (.const nS))]) .ret) .skip)) (sQ (.region [oM 5 0,
 oO 6 (.nilck (tT 5)),oO 7 (.faddr 1 (tT 6)),oO 8 (.load false 1 (tT 7)),oO 9 (kC 75 [(tT 8)]),oM 2 9]) .ret)))
theorem ok44 : FnOk Tryz.prog 44 10 ir44 [.tmp 2] := fnOk_of mixed Tryz.func44 (by kernel_rfl) Tryz.ntmps44 (by kernel_rfl) (by kernel_rfl)

def ir45 : ACode := (sQ (.region [oO 2 (.mov kF)]) (sQ (.region [oM 3 0,oO 4 (.bin .geq .num (tT 3) (kI 1)),oM 5 4,oT 5 6 (.mov (tT 0)),oT 5 7 (.bin .leq .num (tT 6) (kI 63)),oO 8 (.pick (tT 5) (tT 7) kF),
 oM 2 8]) .ret))
theorem ok45 : FnOk Tryz.prog 45 9 ir45 [.tmp 2] := fnOk_of mixed Tryz.func45 (by kernel_rfl) Tryz.ntmps45 (by kernel_rfl) (by kernel_rfl)

def ir46 : ACode := (sQ (.region [oO 4 (.mov (.const (.int .u64 0)))]) (sQ (sQ (.region [oM 9 1,oO 10 (kC 45 [(tT 9)]),oO 11 (.una .not (tT 10))]) (.cond (tT 11) (sQ (.region [oO 4 (.mov (.const (.int .u64 0)))]) .ret) .skip)) (sQ (.region [oM 12 1,
 oO 13 (.bin .shl .num (.const (.int .u64 1)) (tT 12)),oM 5 13]) (.block 0 (.loop (.block 1 (sQ (.region [oM 14 5,oM 6 14]) (sQ (sQ (.region [oM 15 0,oO 16 (.len (tT 15)),oO 17 (.mov (kI 0))]) (.block 2 (.loop (sQ (.region [oO 18 (.bin .lss .num (tT 17) (tT 16))]) (sQ (.cond (tT 18) .skip (.exit 2)) (sQ (.block 3 (sQ (.region [oO 19 (.iaddr 2 (tT 15) (tT 17)),
 oO 20 (.load true 2 (tT 19)),oO 8 (.alloc [(.int .i64 0),(.int .i64 0)]),⟨none,.store 2 (tT 8) (tT 20),none⟩]) (sQ (.region [oM 21 5,oO 22 (.iaddrA 2 1 (tT 8) (kI 0)),oO 23 (.load false 1 (tT 22)),oO 24 (.bin .shr .num (tT 21) (tT 23)),
 oO 25 (.bin .rem .num (tT 24) (.const (.int .u64 2))),oO 26 (.bin .eql .num (tT 25) (.const (.int .u64 1)))]) (.cond (tT 26) (.region [oM 27 6,oO 28 (.iaddrA 2 1 (tT 8) (kI 1)),oO 29 (.load false 1 (tT 28)),
 oO 30 (.bin .shl .num (.const (.int .u64 1)) (tT 29)),oO 31 (.bin .or .num (tT 27) (tT 30)),oM 6 31]) .skip)))) (.region [oO 32 (.bin .add .num (tT 17) (kI 1)),oM 17 32]))))))) (sQ (sQ (.region [oM 33 6,
 oM 34 5,oO 35 (.bin .eql .num (tT 33) (tT 34))]) (.cond (tT 35) (sQ (.region [oM 36 5,oM 4 36]) .ret) .skip)) (.region [oM 37 6,oM 5 37]))))))))))
theorem ok46 : FnOk Tryz.prog 46 38 ir46 [.tmp 4] := fnOk_of mixed Tryz.func46 (by kernel_rfl) Tryz.ntmps46 (by kernel_rfl) (by kernel_rfl)

def ir52 : ACode := (sQ (.region [oO 1 (.box (tT 0)),oO 2 (.mov (.const .nilFunc))]) (sQ (.region [oO 3 (.mkfn 80 [(tT 1)]),oM 2 3]) .ret))
theorem ok52 : FnOk Tryz.prog 52 4 ir52 [.tmp 2] := fnOk_of mixed Tryz.func52 (by kernel_rfl) Tryz.ntmps52 (by kernel_rfl) (by kernel_rfl)

def ir58 : ACode := (sQ (.region [oO 2 (.alloc [(.int .u8 0),(.int .i64 0),nS,nS])]) (sQ (.region [oM 3 0,oO 4 (.build [(.int .u8 0),(.int .i64 0),nS,nS] [(0,1,(.const (.int .u8 1))),(1,1,(tT 3))]),⟨none,
 .store 4 (tT 2) (tT 4),none⟩]) .ret))
theorem ok58 : FnOk Tryz.prog 58 5 ir58 [.cell 2 true 4] := fnOk_of mixed Tryz.func58 (by kernel_rfl) Tryz.ntmps58 (by kernel_rfl) (by kernel_rfl)

def ir59 : ACode := (sQ (.region [oO 2 (.alloc [(.int .u8 0),(.int .i64 0),nS,nS])]) (sQ (.region [oM 3 0,oO 4 (.bslice [(.int .i64 0)] 1 [(0,(tT 3))]),oO 5 (.build [(.int .u8 0),(.int .i64 0),nS,nS] [(0,
 1,(.const (.int .u8 6))),(2,1,(tT 4))]),⟨none,.store 4 (tT 2) (tT 5),none⟩]) .ret))
theorem ok59 : FnOk Tryz.prog 59 6 ir59 [.cell 2 true 4] := fnOk_of mixed Tryz.func59 (by kernel_rfl) Tryz.ntmps59 (by kernel_rfl) (by kernel_rfl)

def ir60 : ACode := (sQ (.region [oO 2 (.alloc [(.int .u8 0),(.int .i64 0),nS,nS])]) (sQ (.region [oM 3 0,oO 4 (.bslice [(.int .i64 0)] 1 [(0,(tT 3))]),oO 5 (.build [(.int .u8 0),(.int .i64 0),nS,nS] [(0,
 1,(.const (.int .u8 4))),(2,1,(tT 4))]),⟨none,.store 4 (tT 2) (tT 5),none⟩]) .ret))
theorem ok60 : FnOk Tryz.prog 60 6 ir60 [.cell 2 true 4] := fnOk_of mixed Tryz.func60 (by kernel_rfl) Tryz.ntmps60 (by kernel_rfl) (by kernel_rfl)

def ir61 : ACode := (sQ (.region [oO 1 (.box (tT 0)),oO 2 (.mov (.const (.int .u8 0))),oO 3 (.mov (kI 0))]) (sQ (sQ (.region [oO 5 (.load true 4 (tT 1)),oO 6 (kC 86 [(tT 5),(.const (.int .u8 0))]),oM 4 6]) (sQ (.region [oM 7 4,
 oO 8 (.bin .neq .num (tT 7) (kI 0))]) (.cond (tT 8) (sQ (.region [oM 9 4,oO 2 (.mov (.const (.int .u8 0))),oM 3 9]) .ret) .skip))) (sQ (sQ (.region [oO 10 (.load true 4 (tT 1)),oO 11 (kC 87 [(tT 10)]),
 oO 12 (.una .not (tT 11))]) (.cond (tT 12) (sQ (.region [oO 2 (.mov (.const (.int .u8 0))),oO 3 (.mov (kI 10))]) .ret) .skip)) (sQ (.region [oO 13 (.faddr 0 (tT 1)),oO 14 (.load false 1 (tT 13)),oO 15 (kC 88 [(tT 14)]),
 oM 2 15,oO 3 (.mov (kI 0))]) .ret))))
theorem ok61 : FnOk Tryz.prog 61 16 ir61 [.tmp 2, .tmp 3] := fnOk_of mixed Tryz.func61 (by kernel_rfl) Tryz.ntmps61 (by kernel_rfl) (by kernel_rfl)

def ir62 : ACode := (sQ (.region [oO 2 (.box (tT 0)),oO 3 (.box (tT 1)),oO 4 (.mov (kI 0))]) (sQ (sQ (.region [oO 10 (.faddr 0 (tT 3)),oO 11 (.load false 1 (tT 10))]) (.block 0 (sQ (.region [oO 13 (.bin .eql .num (tT 11) (.const (.int .u8 1))),
 oM 12 13]) (.cond (tT 12) (sQ (.region [oO 14 (.faddr 1 (tT 3)),oO 15 (.load false 1 (tT 14)),oM 4 15]) .ret) (sQ (.region [oO 17 (.bin .eql .num (tT 11) (.const (.int .u8 2))),oM 16 17]) (.cond (tT 16) (sQ (.region [oO 4 (.mov (kI 1))]) .ret) (sQ (.region [oO 19 (.bin .eql .num (tT 11) (.const (.int .u8 3))),
 oM 18 19]) (.cond (tT 18) (sQ (.region [oO 4 (.mov (kI 0))]) .ret) (sQ (sQ (.region [oO 21 (.bin .eql .num (tT 11) (.const (.int .u8 4))),oM 20 21]) (.cond (tT 20) .skip (.region [oO 22 (.bin .eql .num (tT 11) (.const (.int .u8 5))),
 oM 20 22]))) (.cond (tT 20) (sQ (.region [oO 5 (.mov (kI 0))]) (sQ (sQ (.region [oO 23 (.faddr 2 (tT 3)),oO 24 (.load false 1 (tT 23)),oO 25 (.len (tT 24)),oO 26 (.mov (kI 0))]) (.block 1 (.loop (sQ (.region [oO 27 (.bin .lss .num (tT 26) (tT 25))]) (sQ (.cond (tT 27) .skip (.exit 1)) (sQ (.block 2 (sQ (.region [oO 28 (.iaddr 1 (tT 24) (tT 26)),
 oO 29 (.load false 1 (tT 28)),oM 7 29]) (.region [oM 30 5,oO 31 (.faddr 0 (tT 2)),oO 32 (.load true 1 (tT 31)),oM 33 7,oO 34 (kC 74 [(tT 32),(tT 33)]),oO 35 (kC 89 [(tT 34)]),oO 36 (.bin .add .num (tT 30) (tT 35)),
 oM 5 36]))) (.region [oO 37 (.bin .add .num (tT 26) (kI 1)),oM 26 37]))))))) (sQ (.region [oM 38 5,oM 4 38]) .ret))) (sQ (.region [oO 40 (.bin .eql .num (tT 11) (.const (.int .u8 6))),oM 39 40]) (.cond (tT 39) (sQ (.draw [⟨0,
 oO 41 (.load true 2 (tT 2)),0,0,false⟩,⟨1,oO 42 (.faddr 2 (tT 3)),0,0,false⟩,⟨2,oO 43 (.load false 1 (tT 42)),2,0,false⟩,⟨3,oO 44 (.iaddr 1 (tT 43) (kI 0)),6,0,false⟩,⟨4,oO 45 (.load false 1 (tT 44)),14,
 0,false⟩,⟨5,oO 46 (kC 90 [(tT 41),(tT 45)]),31,1,false⟩,⟨6,oM 4 46,63,1,false⟩]) .ret) (sQ (.region [oO 48 (.bin .eql .num (tT 11) (.const (.int .u8 7))),oM 47 48]) (.cond (tT 47) (sQ (.draw [⟨0,oO 49 (.load true 2 (tT 2)),
 0,0,false⟩,⟨1,oO 50 (.faddr 3 (tT 3)),0,0,false⟩,⟨2,oO 51 (.load false 1 (tT 50)),2,0,false⟩,⟨3,oO 52 (.iaddr 4 (tT 51) (kI 0)),6,0,false⟩,⟨4,oO 53 (.load true 4 (tT 52)),14,0,false⟩,⟨5,oO 54 (kC 62 [(tT 49),
 (tT 53)]),31,1,false⟩,⟨6,oO 55 (.bin .sub .num (kI 1) (tT 54)),63,1,false⟩,⟨7,oM 4 55,127,1,false⟩]) .ret) .skip)))))))))))))) (sQ (.draw [⟨0,oO 56 (.load true 2 (tT 2)),0,0,false⟩,⟨1,oO 57 (.faddr 3 (tT 3)),
 0,0,false⟩,⟨2,oO 58 (.load false 1 (tT 57)),2,0,false⟩,⟨3,oO 59 (.iaddr 4 (tT 58) (kI 0)),6,0,false⟩,⟨4,oO 60 (.load true 4 (tT 59)),14,0,false⟩,⟨5,oO 61 (kC 62 [(tT 56),(tT 60)]),31,0,false⟩,⟨6,oO 62 (.load true 2 (tT 2)),
 0,0,false⟩,⟨7,oO 63 (.faddr 3 (tT 3)),0,0,false⟩,⟨8,oO 64 (.load false 1 (tT 63)),128,0,false⟩,⟨9,oO 65 (.iaddr 4 (tT 64) (kI 1)),384,0,false⟩,⟨10,oO 66 (.load true 4 (tT 65)),896,0,false⟩,⟨11,oO 67 (kC 62 [(tT 62),
 (tT 66)]),2047,1,false⟩,⟨12,oM 8 61,4095,1,false⟩,⟨13,oM 9 67,8191,1,false⟩]) (sQ (sQ (.region [oO 68 (.faddr 0 (tT 3)),oO 69 (.load false 1 (tT 68))]) (.block 3 (sQ (.region [oO 71 (.bin .eql .num (tT 69) (.const (.int .u8 8))),
 oM 70 71]) (.cond (tT 70) (sQ (.region [oM 72 8,oM 73 9,oO 74 (.bin .mul .num (tT 72) (tT 73)),oM 4 74]) .ret) (sQ (.region [oO 76 (.bin .eql .num (tT 69) (.const (.int .u8 9))),oM 75 76]) (.cond (tT 75) (sQ (.region [oM 77 8,
 oM 78 9,oO 79 (.mx (tT 77) (tT 78)),oM 4 79]) .ret) (sQ (.region [oO 81 (.bin .eql .num (tT 69) (.const (.int .u8 10))),oM 80 81]) (.cond (tT 80) (sQ (.region [oM 82 8,oO 83 (.bin .sub .num (kI 1) (tT 82)),
 oM 84 9,oO 85 (.mx (tT 83) (tT 84)),oM 4 85]) .ret) (sQ (.region [oO 87 (.bin .eql .num (tT 69) (.const (.int .u8 11))),oM 86 87]) (.cond (tT 86) (sQ (.region [oM 88 8,oM 89 9,oO 90 (.bin .leq .num (tT 88) (tT 89)),
 oO 91 (kC 89 [(tT 90)]),oM 4 91]) .ret) (sQ (.region [oO 93 (.bin .eql .num (tT 69) (.const (.int .u8 12))),oM 92 93]) (.cond (tT 92) (sQ (.region [oM 94 8,oM 95 9,oO 96 (.bin .lss .num (tT 94) (tT 95)),
 oO 97 (kC 89 [(tT 96)]),oM 4 97]) .ret) (sQ (.region [oO 99 (.bin .eql .num (tT 69) (.const (.int .u8 13))),oM 98 99]) (.cond (tT 98) (sQ (.region [oM 100 8,oM 101 9,oO 102 (.bin .geq .num (tT 100) (tT 101)),
 oO 103 (kC 89 [(tT 102)]),oM 4 103]) .ret) (sQ (.region [oO 105 (.bin .eql .num (tT 69) (.const (.int .u8 14))),oM 104 105]) (.cond (tT 104) (sQ (.region [oM 106 8,oM 107 9,oO 108 (.bin .gtr .num (tT 106) (tT 107)),
 oO 109 (kC 89 [(tT 108)]),oM 4 109]) .ret) (sQ (.region [oO 111 (.bin .eql .num (tT 69) (.const (.int .u8 15))),oM 110 111]) (.cond (tT 110) (sQ (.region [oM 112 8,oM 113 9,oO 114 (.bin .eql .num (tT 112) (tT 113)),
 oO 115 (kC 89 [(tT 114)]),oM 4 115]) .ret) .skip)))))))))))))))))) (sQ (.region [oM 116 8,oM 117 9,oO 118 (.bin .add .num (tT 116) (tT 117)),oM 4 118]) .ret)))))
theorem ok62 : FnOk Tryz.prog 62 119 ir62 [.tmp 4] := fnOk_of mixed Tryz.func62 (by kernel_rfl) Tryz.ntmps62 (by kernel_rfl) (by kernel_rfl)

def ir63 : ACode := (sQ (.region [oO 2 (.alloc [nS])]) (sQ (.block 0 (.loop (sQ (sQ (.region [oM 3 0,oO 4 (.len (tT 3)),oO 5 (.bin .gtr .num (tT 4) (kI 0)),oM 6 5,oT 6 7 (.mov (tT 0)),oT 6 8 (.mov (tT 0)),
 oT 6 9 (.len (tT 8)),oT 6 10 (.bin .sub .num (tT 9) (kI 1)),oT 6 11 (.iaddr 1 (tT 7) (tT 10)),oT 6 12 (.load false 1 (tT 11)),oT 6 13 (.bin .eql .num (tT 12) (.const (.int .u64 0))),oO 14 (.pick (tT 6) (tT 13) kF)]) (.cond (tT 14) .skip (.exit 0))) (.block 1 (.region [oM 15 0,
 oM 16 0,oO 17 (.len (tT 16)),oO 18 (.bin .sub .num (tT 17) (kI 1)),oO 19 (.slc 1 (tT 15) none (some (tT 18)) none),oM 0 19]))))) (sQ (.region [oM 20 0,oO 21 (.build [nS] [(0,1,(tT 20))]),⟨none,.store 1 (tT 2) (tT 21),
 none⟩]) .ret)))
theorem ok63 : FnOk Tryz.prog 63 22 ir63 [.cell 2 true 1] := fnOk_of mixed Tryz.func63 (by kernel_rfl) Tryz.ntmps63 (by kernel_rfl) (by kernel_rfl)

def ir64 : ACode := (sQ (.region [oO 2 (.mov (.const nS))]) (sQ (.region [oO 3 (.mov (.const nS))]) (sQ (sQ (.region [oO 4 (.mov (kI 0))]) (.block 0 (.loop (sQ (sQ (.region [oM 9 4,oO 10 (.bin .lss .num (tT 9) (kI 6))]) (.cond (tT 10) .skip (.exit 0))) (sQ (.block 1 (.region [oM 13 3,
 oM 14 4,oM 15 0,oO 16 (.bin .shr .num (tT 15) (.const (.int .u64 16))),oO 17 (.bin .rem .num (tT 16) (.const (.int .u64 2))),oO 18 (.conv .i64 (tT 17)),oO 19 (.bin .mul .num (kI 4) (tT 18)),oO 20 (.bin .add .num (kI 1) (tT 19)),
 oO 21 (.bin .mul .num (tT 14) (tT 20)),oM 22 0,oO 23 (.bin .shr .num (tT 22) (.const (.int .u64 17))),oO 24 (.bin .rem .num (tT 23) (.const (.int .u64 6))),oO 25 (.conv .i64 (tT 24)),oO 26 (.bin .add .num (tT 21) (tT 25)),
 oO 27 (.bin .rem .num (tT 26) (kI 6)),oO 28 (.bin .add .num (kI 1) (tT 27)),oO 29 (.bslice [(.int .i64 0)] 1 [(0,(tT 28))]),oO 30 (.append [(.int .i64 0)] 8 (tT 13) (tT 29)),oM 3 30])) (.region [oM 11 4,
 oO 12 (.bin .add .num (tT 11) (kI 1)),oM 4 12])))))) (sQ (.region [oO 5 (.mov (.const nS))]) (sQ (.region [oO 6 (.mov (kI 0))]) (sQ (sQ (.region [oO 7 (.mov (kI 0))]) (.block 2 (.loop (sQ (sQ (.region [oM 31 7,
 oO 32 (.bin .lss .num (tT 31) (kI 6))]) (.cond (tT 32) .skip (.exit 2))) (sQ (.block 3 (sQ (.region [oM 35 7,oO 36 (.bin .add .num (tT 35) (kI 1)),oM 8 36]) (.block 4 (.loop (sQ (sQ (.region [oM 37 8,oO 38 (.bin .lss .num (tT 37) (kI 6))]) (.cond (tT 38) .skip (.exit 4))) (sQ (.block 5 (sQ (sQ (.region [oM 41 0,
 oM 42 6,oO 43 (.bin .shr .num (tT 41) (tT 42)),oO 44 (.bin .rem .num (tT 43) (.const (.int .u64 2))),oO 45 (.bin .eql .num (tT 44) (.const (.int .u64 1)))]) (.cond (tT 45) (.draw [⟨0,oM 47 5,0,0,false⟩,
 ⟨1,oM 48 3,0,0,false⟩,⟨2,oM 49 7,0,0,false⟩,⟨3,oO 50 (.iaddr 1 (tT 48) (tT 49)),6,0,false⟩,⟨4,oO 51 (.load false 1 (tT 50)),14,0,false⟩,⟨5,oM 52 3,0,0,false⟩,⟨6,oM 53 8,0,0,false⟩,⟨7,oO 54 (.iaddr 1 (tT 52) (tT 53)),
 96,0,false⟩,⟨8,oO 55 (.load false 1 (tT 54)),224,0,false⟩,⟨9,oO 56 (kC 91 [(tT 47),(tT 51),(tT 55)]),511,1,false⟩,⟨10,oM 46 56,1023,1,false⟩,⟨11,oO 57 (.extract (tT 46) 0),2047,1,false⟩,⟨12,oO 58 (.extract (tT 46) 1),
 2047,1,false⟩,⟨13,oM 5 57,4095,1,false⟩]) .skip)) (.region [oM 59 6,oO 60 (.bin .add .num (tT 59) (kI 1)),oM 6 60]))) (.region [oM 39 8,oO 40 (.bin .add .num (tT 39) (kI 1)),oM 8 40]))))))) (.region [oM 33 7,
 oO 34 (.bin .add .num (tT 33) (kI 1)),oM 7 34])))))) (sQ (.region [oM 61 5,oM 2 61]) .ret)))))))
theorem ok64 : FnOk Tryz.prog 64 62 ir64 [.tmp 2] := fnOk_of mixed Tryz.func64 (by kernel_rfl) Tryz.ntmps64 (by kernel_rfl) (by kernel_rfl)

def ir65 : ACode := (sQ (.region [oO 2 (.mov (.const nS))]) (sQ (.region [oO 3 (.mov (.const nS))]) (sQ (sQ (.region [oM 6 0,oO 7 (.len (tT 6)),oO 8 (.mov (kI 0))]) (.block 0 (.loop (sQ (.region [oO 9 (.bin .lss .num (tT 8) (tT 7))]) (sQ (.cond (tT 9) .skip (.exit 0)) (sQ (.block 1 (sQ (.region [oM 10 8,
 oO 11 (.iaddr 3 (tT 6) (tT 8)),oO 12 (.load true 3 (tT 11)),oO 5 (.alloc [(.int .u8 0),(.int .u8 0),(.int .u8 0)]),oM 4 10,⟨none,.store 3 (tT 5) (tT 12),none⟩]) (sQ (sQ (.region [oM 13 4,oO 14 (.bin .eql .num (tT 13) (kI 16))]) (.cond (tT 14) (.exit 0) .skip)) (.region [oM 16 3,
 oO 17 (.load true 3 (tT 5)),oO 18 (kC 7 [(tT 17)]),oO 19 (kC 92 [(tT 16),(tT 18)]),oM 15 19,oO 20 (.extract (tT 15) 0),oO 21 (.extract (tT 15) 1),oM 3 20])))) (.region [oO 22 (.bin .add .num (tT 8) (kI 1)),
 oM 8 22]))))))) (sQ (.region [oM 23 3,oM 2 23]) .ret))))
theorem ok65 : FnOk Tryz.prog 65 24 ir65 [.tmp 2] := fnOk_of mixed Tryz.func65 (by kernel_rfl) Tryz.ntmps65 (by kernel_rfl) (by kernel_rfl)

def ir66 : ACode := (sQ (.region [oO 4 (.mov (.const (.pointer none))),oO 5 (.mov (kI 0))]) (sQ (sQ (.region [oM 10 0,oO 11 (.bin .lss .num (tT 10) (kI 0)),oM 12 11,oF 12 13 (.mov (tT 0)),oF 12 14 (.bin .gtr .num (tT 13) (kI 256)),
 oO 15 (.pick (tT 12) kT (tT 14))]) (.cond (tT 15) (sQ (.region [oO 4 (.mov (.const (.pointer none))),oO 5 (.mov (kI 1))]) .ret) .skip)) (sQ (sQ (.region [oM 16 1,oO 17 (.len (tT 16)),oO 18 (.mov (kI 0))]) (.block 0 (.loop (sQ (.region [oO 19 (.bin .lss .num (tT 18) (tT 17))]) (sQ (.cond (tT 19) .skip (.exit 0)) (sQ (.block 1 (sQ (.region [oO 20 (.iaddr 2 (tT 16) (tT 18)),
 oO 21 (.load true 2 (tT 20)),oO 7 (.alloc [(.int .i64 0),(.int .i64 0)]),⟨none,.store 2 (tT 7) (tT 21),none⟩]) (sQ (.region [oO 22 (.iaddrA 2 1 (tT 7) (kI 0)),oO 23 (.load false 1 (tT 22)),oO 24 (.iaddrA 2 1 (tT 7) (kI 1)),
 oO 25 (.load false 1 (tT 24)),oO 26 (.mn (tT 23) (tT 25)),oO 27 (.bin .lss .num (tT 26) (kI 0)),oM 28 27,oF 28 29 (.iaddrA 2 1 (tT 7) (kI 0)),oF 28 30 (.load false 1 (tT 29)),oF 28 31 (.iaddrA 2 1 (tT 7) (kI 1)),
 oF 28 32 (.load false 1 (tT 31)),oF 28 33 (.mx (tT 30) (tT 32)),oF 28 34 (.mov (tT 0)),oF 28 35 (.bin .geq .num (tT 33) (tT 34)),oO 36 (.pick (tT 28) kT (tT 35))]) (.cond (tT 36) (sQ (.region [oO 4 (.mov (.const (.pointer none))),
 oO 5 (.mov (kI 2))]) .ret) .skip)))) (.region [oO 37 (.bin .add .num (tT 18) (kI 1)),oM 18 37]))))))) (sQ (.region [oO 38 (.bslice [(.int .i64 0),(.int .i64 0)] 0 []),oM 39 1,oO 40 (.append [(.int .i64 0),
 (.int .i64 0)] 16 (tT 38) (tT 39)),oM 8 40]) (sQ (.region [oM 41 8,oO 42 (kC 93 [(tT 41),(.func 94)])]) (sQ (.region [oM 43 0,oM 44 8,oO 45 (kC 96 [(tT 44)]),oO 46 (kC 95 [(tT 45)]),oO 47 (.build [(.int .i64 0),
 nS,nS,nS,nS] [(0,1,(tT 43)),(1,1,(tT 46))]),oO 48 (.box (tT 47)),oM 9 48]) (sQ (sQ (.region [oM 49 9,oO 50 (kC 97 [(tT 49)]),oO 51 (.una .not (tT 50))]) (.cond (tT 51) (sQ (.region [oO 4 (.mov (.const (.pointer none))),
 oO 5 (.mov (kI 16))]) .ret) .skip)) (sQ (.region [oM 52 9,oO 53 (kC 98 [(tT 52)])]) (sQ (.region [oM 54 9,oM 4 54,oO 5 (.mov (kI 0))]) .ret)))))))))
theorem ok66 : FnOk Tryz.prog 66 55 ir66 [.tmp 4, .tmp 5] := fnOk_of mixed Tryz.func66 (by kernel_rfl) Tryz.ntmps66 (by kernel_rfl) (by kernel_rfl)

def ir67 : ACode := (sQ (.region [oO 6 (.mov (.const (.pointer none))),oO 7 (.mov (kI 0))]) (sQ (sQ (.region [oM 8 0,oO 9 (.bin .eql .ptr (tT 8) (.const (.pointer none)))]) (.cond (tT 9) (sQ (.region [oO 6 (.mov (.const (.pointer none))),
 oO 7 (.mov (kI 1))]) .ret) .skip)) (sQ (sQ (.region [oM 10 0,oM 11 1,oO 12 (kC 73 [(tT 10),(tT 11)]),oO 13 (.una .not (tT 12)),oM 14 13,oF 14 15 (.mov (tT 0)),oF 14 16 (.mov (tT 2)),oF 14 17 (kC 73 [(tT 15),
 (tT 16)]),oF 14 18 (.una .not (tT 17)),oO 19 (.pick (tT 14) kT (tT 18))]) (.cond (tT 19) (sQ (.region [oO 6 (.mov (.const (.pointer none))),oO 7 (.mov (kI 2))]) .ret) .skip)) (sQ (sQ (.region [oM 20 0,
 oO 21 (.nilck (tT 20)),oO 22 (.faddr 1 (tT 21)),oO 23 (.load false 1 (tT 22)),oM 24 1,oM 25 2,oO 26 (.build [(.int .i64 0),(.int .i64 0)] [(0,1,(tT 24)),(1,1,(tT 25))]),oO 27 (kC 99 [(tT 23),(tT 26)])]) (.cond (tT 27) (sQ (.region [oO 6 (.mov (.const (.pointer none))),
 oO 7 (.mov (kI 5))]) .ret) .skip)) (sQ (.draw [⟨0,oM 28 0,0,0,false⟩,⟨1,oO 29 (.nilck (tT 28)),1,0,false⟩,⟨2,oO 30 (.faddr 0 (tT 29)),3,0,false⟩,⟨3,oO 31 (.load false 1 (tT 30)),7,0,false⟩,⟨4,oM 32 0,0,
 0,false⟩,⟨5,oO 33 (kC 44 [(tT 32)]),16,0,false⟩,⟨6,oM 34 1,0,0,false⟩,⟨7,oM 35 2,0,0,false⟩,⟨8,oO 36 (.build [(.int .i64 0),(.int .i64 0)] [(0,1,(tT 34)),(1,1,(tT 35))]),192,0,false⟩,⟨9,oO 37 (.bslice [(.int .i64 0),
 (.int .i64 0)] 1 [(0,(tT 36))]),448,0,false⟩,⟨10,oO 38 (.append [(.int .i64 0),(.int .i64 0)] 16 (tT 33) (tT 37)),1008,2016,false⟩,⟨11,oO 39 (kC 66 [(tT 31),(tT 38)]),2047,1,false⟩,⟨12,oO 40 (.extract (tT 39) 0),
 4095,1,false⟩,⟨13,oO 41 (.extract (tT 39) 1),4095,1,false⟩,⟨14,oM 6 40,16383,1,false⟩,⟨15,oM 7 41,32767,1,false⟩]) .ret)))))
theorem ok67 : FnOk Tryz.prog 67 42 ir67 [.tmp 6, .tmp 7] := fnOk_of mixed Tryz.func67 (by kernel_rfl) Tryz.ntmps67 (by kernel_rfl) (by kernel_rfl)

def ir68 : ACode := (sQ (.region [oO 4 (.box (tT 1)),oO 6 (.mov (kI 0)),oO 7 (.mov kF)]) (sQ (.region [oM 12 0,oO 13 (.len (tT 12)),oM 8 13]) (sQ (.region [oM 14 8,oO 9 (.mov (kI 0)),oM 10 14]) (sQ (.block 0 (.loop (sQ (sQ (.region [oM 15 9,
 oM 16 10,oO 17 (.bin .lss .num (tT 15) (tT 16))]) (.cond (tT 17) .skip (.exit 0))) (.block 1 (sQ (.region [oM 18 9,oM 19 10,oO 20 (.bin .add .num (tT 18) (tT 19)),oO 21 (.conv .u64 (tT 20)),oO 22 (.bin .shr .num (tT 21) (.const (.int .u64 1))),
 oO 23 (.conv .i64 (tT 22)),oM 11 23]) (sQ (.draw [⟨0,oM 24 2,0,0,false⟩,⟨1,oM 25 0,0,0,false⟩,⟨2,oM 26 11,0,0,false⟩,⟨3,oO 27 (.iaddr 3 (tT 25) (tT 26)),6,0,false⟩,⟨4,oO 28 (.load true 3 (tT 27)),14,0,
 false⟩,⟨5,oO 29 (.load true 3 (tT 4)),0,0,false⟩,⟨6,oO 30 (.call (tT 24) [(tT 28),(tT 29)]),63,1,false⟩,⟨7,oO 31 (.bin .lss .num (tT 30) (kI 0)),127,1,false⟩]) (.cond (tT 31) (.region [oM 32 11,oO 33 (.bin .add .num (tT 32) (kI 1)),
 oM 9 33]) (.region [oM 34 11,oM 10 34])))))))) (sQ (.draw [⟨0,oM 35 9,0,0,false⟩,⟨1,oM 36 9,0,1,false⟩,⟨2,oM 37 8,0,1,false⟩,⟨3,oO 38 (.bin .lss .num (tT 36) (tT 37)),6,1,false⟩,⟨4,oM 39 38,14,1,false⟩,
 ⟨5,oT 39 40 (.mov (tT 2)),30,0,false⟩,⟨6,oT 39 41 (.mov (tT 0)),30,0,false⟩,⟨7,oT 39 42 (.mov (tT 9)),30,0,false⟩,⟨8,oT 39 43 (.iaddr 3 (tT 41) (tT 42)),222,0,false⟩,⟨9,oT 39 44 (.load true 3 (tT 43)),
 478,0,false⟩,⟨10,oT 39 45 (.load true 3 (tT 4)),30,0,false⟩,⟨11,oT 39 46 (.call (tT 40) [(tT 44),(tT 45)]),2046,1,false⟩,⟨12,oT 39 47 (.bin .eql .num (tT 46) (kI 0)),4094,1,false⟩,⟨13,oO 48 (.pick (tT 39) (tT 47) kF),
 8190,1,false⟩,⟨14,oM 6 35,4095,1,false⟩,⟨15,oM 7 48,32767,1,false⟩]) .ret)))))
theorem ok68 : FnOk Tryz.prog 68 49 ir68 [.tmp 6, .tmp 7] := fnOk_of mixed Tryz.func68 (by kernel_rfl) Tryz.ntmps68 (by kernel_rfl) (by kernel_rfl)

def ir69 : ACode := (sQ (.region [oO 2 (.box (tT 0)),oO 3 (.box (tT 1)),oO 4 (.mov (kI 0))]) (sQ (sQ (.region [oO 5 (.faddr 0 (tT 2)),oO 6 (.load false 1 (tT 5)),oO 7 (.faddr 0 (tT 3)),oO 8 (.load false 1 (tT 7)),
 oO 9 (.bin .neq .num (tT 6) (tT 8))]) (.cond (tT 9) (sQ (.region [oO 10 (.faddr 0 (tT 2)),oO 11 (.load false 1 (tT 10)),oO 12 (.faddr 0 (tT 3)),oO 13 (.load false 1 (tT 12)),oO 14 (.bin .sub .num (tT 11) (tT 13)),
 oM 4 14]) .ret) .skip)) (sQ (.region [oO 15 (.faddr 1 (tT 2)),oO 16 (.load false 1 (tT 15)),oO 17 (.faddr 1 (tT 3)),oO 18 (.load false 1 (tT 17)),oO 19 (.bin .sub .num (tT 16) (tT 18)),oM 4 19]) .ret)))
theorem ok69 : FnOk Tryz.prog 69 20 ir69 [.tmp 4] := fnOk_of mixed Tryz.func69 (by kernel_rfl) Tryz.ntmps69 (by kernel_rfl) (by kernel_rfl)

def ir72 : ACode := (sQ (.region [oO 2 (.box (tT 0)),oO 4 (.mov kF)]) (sQ (.region [oM 5 1,oO 6 (.bin .geq .num (tT 5) (kI 0)),oM 7 6,oT 7 8 (.mov (tT 1)),oT 7 9 (.bin .leq .num (tT 8) (kI 30000)),oO 10 (.pick (tT 7) (tT 9) kF),
 oM 11 10,oT 11 12 (.mov (tT 1)),oT 11 13 (.faddr 2 (tT 2)),oT 11 14 (.load false 1 (tT 13)),oT 11 15 (.bin .leq .num (tT 12) (tT 14)),oO 16 (.pick (tT 11) (tT 15) kF),oM 4 16]) .ret))
theorem ok72 : FnOk Tryz.prog 72 17 ir72 [.tmp 4] := fnOk_of mixed Tryz.func72 (by kernel_rfl) Tryz.ntmps72 (by kernel_rfl) (by kernel_rfl)

def ir73 : ACode := (sQ (.region [oO 4 (.mov kF)]) (sQ (.region [oM 5 0,oO 6 (.bin .neq .ptr (tT 5) (.const (.pointer none))),oM 7 6,oT 7 8 (.mov (tT 1)),oT 7 9 (.bin .geq .num (tT 8) (kI 0)),oO 10 (.pick (tT 7) (tT 9) kF),
 oM 11 10,oT 11 12 (.mov (tT 1)),oT 11 13 (.mov (tT 0)),oT 11 14 (.nilck (tT 13)),oT 11 15 (.faddr 0 (tT 14)),oT 11 16 (.load false 1 (tT 15)),oT 11 17 (.bin .lss .num (tT 12) (tT 16)),oO 18 (.pick (tT 11) (tT 17) kF),
 oM 4 18]) .ret))
theorem ok73 : FnOk Tryz.prog 73 19 ir73 [.tmp 4] := fnOk_of mixed Tryz.func73 (by kernel_rfl) Tryz.ntmps73 (by kernel_rfl) (by kernel_rfl)

def ir74 : ACode := (sQ (.region [oO 2 (.box (tT 0)),oO 4 (.mov kF)]) (sQ (.region [oM 5 1,oO 6 (.bin .geq .num (tT 5) (kI 0)),oM 7 6,oT 7 8 (.mov (tT 1)),oT 7 9 (.bin .leq .num (tT 8) (kI 4095)),oO 10 (.pick (tT 7) (tT 9) kF),
 oM 11 10,oT 11 12 (.load true 1 (tT 2)),oT 11 13 (.mov (tT 1)),oT 11 14 (.bin .quo .num (tT 13) (kI 64)),oT 11 15 (kC 39 [(tT 12),(tT 14)]),oT 11 16 (.mov (tT 1)),oT 11 17 (.bin .rem .num (tT 16) (kI 64)),
 oT 11 18 (.bin .shr .num (tT 15) (tT 17)),oT 11 19 (.bin .and .num (tT 18) (.const (.int .u64 1))),oT 11 20 (.bin .eql .num (tT 19) (.const (.int .u64 1))),oO 21 (.pick (tT 11) (tT 20) kF),oM 4 21]) .ret))
theorem ok74 : FnOk Tryz.prog 74 22 ir74 [.tmp 4] := fnOk_of mixed Tryz.func74 (by kernel_rfl) Tryz.ntmps74 (by kernel_rfl) (by kernel_rfl)

def ir75 : ACode := (sQ (.region [oO 2 (.mov (.const nS))]) (sQ (sQ (.region [oM 3 0,oO 4 (.isnil false (tT 3))]) (.cond (tT 4) (sQ (.region [oO 2 (.mov (.const nS))]) .ret) .skip)) (sQ (.region [oO 5 (.bslice [(.int .i64 0),
 (.int .i64 0)] 0 []),oM 6 0,oO 7 (.append [(.int .i64 0),(.int .i64 0)] 16 (tT 5) (tT 6)),oM 2 7]) .ret)))
theorem ok75 : FnOk Tryz.prog 75 8 ir75 [.tmp 2] := fnOk_of mixed Tryz.func75 (by kernel_rfl) Tryz.ntmps75 (by kernel_rfl) (by kernel_rfl)

def ir77 : ACode := (sQ (.region [oO 3 (.box (tT 1)),oO 4 (.mov (kI 0))]) (sQ (sQ (.region [oM 6 0,oO 7 (.len (tT 6)),oO 8 (.mov (kI 0))]) (.block 0 (.loop (sQ (.region [oO 9 (.bin .lss .num (tT 8) (tT 7))]) (sQ (.cond (tT 9) .skip (.exit 0)) (sQ (.block 1 (sQ (.region [oM 10 8,
 oM 5 10]) (sQ (.draw [⟨0,oO 11 (.load true 2 (tT 3)),0,0,false⟩,⟨1,oM 12 0,0,0,false⟩,⟨2,oM 13 5,0,0,false⟩,⟨3,oO 14 (.iaddr 2 (tT 12) (tT 13)),6,0,false⟩,⟨4,oO 15 (.load true 2 (tT 14)),14,0,false⟩,⟨5,
 oO 16 (.bin .eql (.cells [0,0]) (tT 11) (tT 15)),31,1,false⟩]) (.cond (tT 16) (sQ (.region [oM 17 5,oM 4 17]) .ret) .skip)))) (.region [oO 18 (.bin .add .num (tT 8) (kI 1)),oM 8 18]))))))) (sQ (.region [oO 4 (.mov (.const (.int .i64 (-1))))]) .ret)))
theorem ok77 : FnOk Tryz.prog 77 19 ir77 [.tmp 4] := fnOk_of mixed Tryz.func77 (by kernel_rfl) Tryz.ntmps77 (by kernel_rfl) (by kernel_rfl)

def ir80 : ACode := (sQ (.region [oO 5 (.faddr 0 (tT 1)),oO 6 (.load false 1 (tT 5)),oO 7 (.len (tT 6)),oO 8 (.mov (kI 0))]) (.block 0 (.loop (sQ (.region [oO 9 (.bin .lss .num (tT 8) (tT 7))]) (sQ (.cond (tT 9) .skip (.exit 0)) (sQ (.block 1 (sQ (.region [oM 10 8,
 oO 11 (.iaddr 1 (tT 6) (tT 8)),oO 12 (.load false 1 (tT 11)),oM 3 10,oM 4 12]) (.block 2 (.loop (sQ (sQ (.region [oM 13 4,oO 14 (.bin .neq .num (tT 13) (.const (.int .u64 0)))]) (.cond (tT 14) .skip (.exit 2))) (sQ (.block 3 (sQ (.region [oM 19 0,
 oM 20 3,oO 21 (.bin .mul .num (kI 64) (tT 20)),oM 22 4,oO 23 (kC 81 [(tT 22)]),oO 24 (.bin .add .num (tT 21) (tT 23)),oO 25 (.call (tT 19) [(tT 24)]),oO 26 (.una .not (tT 25))]) (.cond (tT 26) .ret .skip))) (.region [oM 15 4,
 oM 16 4,oO 17 (.bin .sub .num (tT 16) (.const (.int .u64 1))),oO 18 (.bin .and .num (tT 15) (tT 17)),oM 4 18]))))))) (.region [oO 27 (.bin .add .num (tT 8) (kI 1)),oM 8 27])))))))
theorem ok80 : FnOk Tryz.prog 80 28 ir80 [] := fnOk_of mixed Tryz.func80 (by kernel_rfl) Tryz.ntmps80 (by kernel_rfl) (by kernel_rfl)

def ir81 : ACode := (sQ (.region [oO 2 (.mov (kI 0))]) (sQ (sQ (.region [oM 3 0,oO 4 (.bin .eql .num (tT 3) (.const (.int .u64 0)))]) (.cond (tT 4) (sQ (.region [oO 2 (.mov (kI 64))]) .ret) .skip)) (sQ (.region [oM 5 0,
 oM 6 0,oO 7 (.una .neg (tT 6)),oO 8 (.bin .and .num (tT 5) (tT 7)),oO 9 (.bin .mul .num (tT 8) (.const (.int .u64 285870213051353865))),oO 10 (.bin .shr .num (tT 9) (.const (.int .u64 58))),oO 11 (.iaddrA 64 1 (.global 0) (tT 10)),
 oO 12 (.load false 1 (tT 11)),oO 13 (.conv .i64 (tT 12)),oM 2 13]) .ret)))
theorem ok81 : FnOk Tryz.prog 81 14 ir81 [.tmp 2] := fnOk_of mixed Tryz.func81 (by kernel_rfl) Tryz.ntmps81 (by kernel_rfl) (by kernel_rfl)

def ir86 : ACode := (sQ (.region [oO 2 (.box (tT 0)),oO 4 (.mov (kI 0))]) (sQ (.region [oO 8 (.load true 4 (tT 2)),oO 9 (kC 109 [(tT 8)]),oM 7 9,oO 10 (.extract (tT 7) 0),oO 11 (.extract (tT 7) 1),oM 5 10,
 oM 6 11]) (sQ (sQ (.region [oM 12 5,oO 13 (.bin .gtr .num (tT 12) (kI 10)),oM 14 13,oF 14 15 (.mov (tT 6)),oF 14 16 (.bin .gtr .num (tT 15) (kI 200)),oO 17 (.pick (tT 14) kT (tT 16))]) (.cond (tT 17) (sQ (.region [oO 4 (.mov (kI 3))]) .ret) .skip)) (sQ (.region [oO 18 (.load true 4 (tT 2)),
 oM 19 1,oO 20 (kC 110 [(tT 18),(tT 19)]),oM 4 20]) .ret))))
theorem ok86 : FnOk Tryz.prog 86 21 ir86 [.tmp 4] := fnOk_of mixed Tryz.func86 (by kernel_rfl) Tryz.ntmps86 (by kernel_rfl) (by kernel_rfl)

def ir87 : ACode := (sQ (.region [oO 1 (.box (tT 0)),oO 2 (.mov kF)]) (sQ (.region [oO 3 (.mov (.const (.int .u8 1)))]) (sQ (sQ (.region [oO 6 (.faddr 0 (tT 1)),oO 7 (.load false 1 (tT 6)),oO 8 (.bin .geq .num (tT 7) (.const (.int .u8 11)))]) (.cond (tT 8) (.region [oO 3 (.mov (.const (.int .u8 2)))]) .skip)) (sQ (sQ (.region [oO 9 (.faddr 3 (tT 1)),
 oO 10 (.load false 1 (tT 9)),oO 11 (.len (tT 10)),oO 12 (.mov (kI 0))]) (.block 0 (.loop (sQ (.region [oO 13 (.bin .lss .num (tT 12) (tT 11))]) (sQ (.cond (tT 13) .skip (.exit 0)) (sQ (.block 1 (sQ (.region [oO 14 (.iaddr 4 (tT 10) (tT 12)),
 oO 15 (.load true 4 (tT 14)),oO 5 (.alloc [(.int .u8 0),(.int .i64 0),nS,nS]),⟨none,.store 4 (tT 5) (tT 15),none⟩]) (sQ (.region [oO 16 (.faddr 0 (tT 5)),oO 17 (.load false 1 (tT 16)),oO 18 (kC 88 [(tT 17)]),
 oM 19 3,oO 20 (.bin .neq .num (tT 18) (tT 19)),oM 21 20,oF 21 22 (.load true 4 (tT 5)),oF 21 23 (kC 87 [(tT 22)]),oF 21 24 (.una .not (tT 23)),oO 25 (.pick (tT 21) kT (tT 24))]) (.cond (tT 25) (sQ (.region [oO 2 (.mov kF)]) .ret) .skip)))) (.region [oO 26 (.bin .add .num (tT 12) (kI 1)),
 oM 12 26]))))))) (sQ (.region [oO 2 (.mov kT)]) .ret)))))
theorem ok87 : FnOk Tryz.prog 87 27 ir87 [.tmp 2] := fnOk_of mixed Tryz.func87 (by kernel_rfl) Tryz.ntmps87 (by kernel_rfl) (by kernel_rfl)

def ir88 : ACode := (sQ (.region [oO 2 (.mov (.const (.int .u8 0)))]) (sQ (sQ (.region [oM 3 0]) (.block 0 (sQ (sQ (.region [oO 5 (.bin .eql .num (tT 3) (.const (.int .u8 1))),oM 4 5]) (.cond (tT 4) .skip (sQ (.region [oO 6 (.bin .eql .num (tT 3) (.const (.int .u8 5))),
 oM 4 6]) (.cond (tT 4) .skip (sQ (.region [oO 7 (.bin .eql .num (tT 3) (.const (.int .u8 6))),oM 4 7]) (.cond (tT 4) .skip (.region [oO 8 (.bin .eql .num (tT 3) (.const (.int .u8 16))),oM 4 8]))))))) (.cond (tT 4) (sQ (.region [oO 2 (.mov (.const (.int .u8 2)))]) .ret) .skip)))) (sQ (.region [oO 2 (.mov (.const (.int .u8 1)))]) .ret)))
theorem ok88 : FnOk Tryz.prog 88 9 ir88 [.tmp 2] := fnOk_of mixed Tryz.func88 (by kernel_rfl) Tryz.ntmps88 (by kernel_rfl) (by kernel_rfl)

def ir89 : ACode := (sQ (.region [oO 2 (.mov (kI 0))]) (sQ (sQ (.region [oM 3 0]) (.cond (tT 3) (sQ (.region [oO 2 (.mov (kI 1))]) .ret) .skip)) (sQ (.region [oO 2 (.mov (kI 0))]) .ret)))
theorem ok89 : FnOk Tryz.prog 89 4 ir89 [.tmp 2] := fnOk_of mixed Tryz.func89 (by kernel_rfl) Tryz.ntmps89 (by kernel_rfl) (by kernel_rfl)

def ir90 : ACode := (sQ (.region [oO 2 (.box (tT 0)),oO 4 (.mov (kI 0))]) (sQ (sQ (.region [oM 5 1,oO 6 (.bin .lss .num (tT 5) (kI 0)),oM 7 6,oF 7 8 (.mov (tT 1)),oF 7 9 (.faddr 1 (tT 2)),oF 7 10 (.load false 1 (tT 9)),
 oF 7 11 (.len (tT 10)),oF 7 12 (.bin .geq .num (tT 8) (tT 11)),oO 13 (.pick (tT 7) kT (tT 12)),oM 14 13,oF 14 15 (.faddr 1 (tT 2)),oF 14 16 (.load false 1 (tT 15)),oF 14 17 (.mov (tT 1)),oF 14 18 (.iaddr 1 (tT 16) (tT 17)),
 oF 14 19 (.load false 1 (tT 18)),oF 14 20 (.bin .lss .num (tT 19) (kI 0)),oO 21 (.pick (tT 14) kT (tT 20)),oM 22 21,oF 22 23 (.faddr 1 (tT 2)),oF 22 24 (.load false 1 (tT 23)),oF 22 25 (.mov (tT 1)),oF 22 26 (.iaddr 1 (tT 24) (tT 25)),
 oF 22 27 (.load false 1 (tT 26)),oF 22 28 (.bin .gtr .num (tT 27) (kI 256)),oO 29 (.pick (tT 22) kT (tT 28))]) (.cond (tT 29) (sQ (.region [oO 4 (.mov (kI 0))]) .ret) .skip)) (sQ (.region [oO 30 (.faddr 1 (tT 2)),
 oO 31 (.load false 1 (tT 30)),oM 32 1,oO 33 (.iaddr 1 (tT 31) (tT 32)),oO 34 (.load false 1 (tT 33)),oM 4 34]) .ret)))
theorem ok90 : FnOk Tryz.prog 90 35 ir90 [.tmp 4] := fnOk_of mixed Tryz.func90 (by kernel_rfl) Tryz.ntmps90 (by kernel_rfl) (by kernel_rfl)

def ir91 : ACode := (sQ (.region [oO 6 (.mov (.const nS)),oO 7 (.mov (kI 0))]) (sQ (sQ (.region [oM 9 1,oO 10 (kC 45 [(tT 9)]),oO 11 (.una .not (tT 10)),oM 12 11,oF 12 13 (.mov (tT 2)),oF 12 14 (kC 45 [(tT 13)]),
 oF 12 15 (.una .not (tT 14)),oO 16 (.pick (tT 12) kT (tT 15)),oM 17 16,oF 17 18 (.mov (tT 1)),oF 17 19 (.mov (tT 2)),oF 17 20 (.bin .eql .num (tT 18) (tT 19)),oO 21 (.pick (tT 17) kT (tT 20))]) (.cond (tT 21) (sQ (.region [oM 22 0,
 oM 6 22,oO 7 (.mov (kI 1))]) .ret) .skip)) (sQ (sQ (.region [oM 23 0,oM 24 1,oM 25 2,oO 26 (kC 111 [(tT 23),(tT 24),(tT 25)])]) (.cond (tT 26) (sQ (.region [oM 27 0,oM 6 27,oO 7 (.mov (kI 5))]) .ret) .skip)) (sQ (sQ (.region [oM 28 0,
 oM 29 2,oM 30 1,oO 31 (kC 15 [(tT 28),(tT 29),(tT 30)])]) (.cond (tT 31) (sQ (.region [oM 32 0,oM 6 32,oO 7 (.mov (kI 16))]) .ret) .skip)) (sQ (.region [oO 8 (.mov (kI 0))]) (sQ (.block 0 (.loop (sQ (sQ (.region [oM 33 8,
 oM 34 0,oO 35 (.len (tT 34)),oO 36 (.bin .lss .num (tT 33) (tT 35)),oM 37 36,oT 37 38 (.mov (tT 0)),oT 37 39 (.mov (tT 8)),oT 37 40 (.iaddr 2 (tT 38) (tT 39)),oT 37 41 (.iaddrA 2 1 (tT 40) (kI 0)),oT 37 42 (.load false 1 (tT 41)),
 oT 37 43 (.mov (tT 1)),oT 37 44 (.bin .lss .num (tT 42) (tT 43)),oT 37 45 (.mov (tT 44)),oF 45 46 (.mov (tT 0)),oF 45 47 (.mov (tT 8)),oF 45 48 (.iaddr 2 (tT 46) (tT 47)),oF 45 49 (.iaddrA 2 1 (tT 48) (kI 0)),
 oF 45 50 (.load false 1 (tT 49)),oF 45 51 (.mov (tT 1)),oF 45 52 (.bin .eql .num (tT 50) (tT 51)),oF 45 53 (.mov (tT 52)),oT 53 54 (.mov (tT 0)),oT 53 55 (.mov (tT 8)),oT 53 56 (.iaddr 2 (tT 54) (tT 55)),
 oT 53 57 (.iaddrA 2 1 (tT 56) (kI 1)),oT 53 58 (.load false 1 (tT 57)),oT 53 59 (.mov (tT 2)),oT 53 60 (.bin .lss .num (tT 58) (tT 59)),oF 45 61 (.pick (tT 53) (tT 60) kF),oT 37 62 (.pick (tT 45) kT (tT 61)),
 oO 63 (.pick (tT 37) (tT 62) kF)]) (.cond (tT 63) .skip (.exit 0))) (.block 1 (.region [oM 64 8,oO 65 (.bin .add .num (tT 64) (kI 1)),oM 8 65]))))) (sQ (.draw [⟨0,oO 66 (.bslice [(.int .i64 0),(.int .i64 0)] 0 []),
 0,0,false⟩,⟨1,oM 67 0,0,0,false⟩,⟨2,oM 68 8,0,0,false⟩,⟨3,oO 69 (.slc 2 (tT 67) none (some (tT 68)) none),6,0,false⟩,⟨4,oO 70 (.append [(.int .i64 0),(.int .i64 0)] 16 (tT 66) (tT 69)),15,30,false⟩,⟨5,
 oM 71 1,0,0,false⟩,⟨6,oM 72 2,0,0,false⟩,⟨7,oO 73 (.build [(.int .i64 0),(.int .i64 0)] [(0,1,(tT 71)),(1,1,(tT 72))]),96,0,false⟩,⟨8,oO 74 (.bslice [(.int .i64 0),(.int .i64 0)] 1 [(0,(tT 73))]),224,0,
 false⟩,⟨9,oO 75 (.append [(.int .i64 0),(.int .i64 0)] 16 (tT 70) (tT 74)),511,1022,false⟩,⟨10,oM 76 0,0,0,false⟩,⟨11,oM 77 8,0,0,false⟩,⟨12,oO 78 (.slc 2 (tT 76) (some (tT 77)) none none),3072,0,false⟩,
 ⟨13,oO 79 (.append [(.int .i64 0),(.int .i64 0)] 16 (tT 75) (tT 78)),8191,1,false⟩,⟨14,oM 6 79,16383,1,false⟩,⟨15,oO 7 (.mov (kI 0)),32767,1,false⟩]) .ret)))))))
theorem ok91 : FnOk Tryz.prog 91 80 ir91 [.tmp 6, .tmp 7] := fnOk_of mixed Tryz.func91 (by kernel_rfl) Tryz.ntmps91 (by kernel_rfl) (by kernel_rfl)

def ir92 : ACode := (sQ (.region [oO 3 (.box (tT 1)),oO 4 (.mov (.const nS)),oO 5 (.mov (kI 0))]) (sQ (sQ (.region [oO 12 (.faddr 0 (tT 3)),oO 13 (.load false 1 (tT 12)),oO 14 (.bin .lss .num (tT 13) (kI 1)),
 oM 15 14,oF 15 16 (.faddr 0 (tT 3)),oF 15 17 (.load false 1 (tT 16)),oF 15 18 (.bin .gtr .num (tT 17) (kI 256)),oO 19 (.pick (tT 15) kT (tT 18)),oM 20 19,oF 20 21 (.faddr 1 (tT 3)),oF 20 22 (.load false 1 (tT 21)),
 oF 20 23 (.bin .lss .num (tT 22) (kI 1)),oO 24 (.pick (tT 20) kT (tT 23)),oM 25 24,oF 25 26 (.faddr 1 (tT 3)),oF 25 27 (.load false 1 (tT 26)),oF 25 28 (.bin .gtr .num (tT 27) (kI 63)),oO 29 (.pick (tT 25) kT (tT 28))]) (.cond (tT 29) (sQ (.region [oO 4 (.mov (.const nS)),
 oO 5 (.mov (kI 1))]) .ret) .skip)) (sQ (sQ (.region [oO 30 (.faddr 2 (tT 3)),oO 31 (.load false 1 (tT 30)),oO 32 (.bin .lss .num (tT 31) (kI 0)),oM 33 32,oF 33 34 (.faddr 2 (tT 3)),oF 33 35 (.load false 1 (tT 34)),
 oF 33 36 (.bin .gtr .num (tT 35) (kI 30000)),oO 37 (.pick (tT 33) kT (tT 36))]) (.cond (tT 37) (sQ (.region [oO 4 (.mov (.const nS)),oO 5 (.mov (kI 2))]) .ret) .skip)) (sQ (.region [oM 39 0,oO 40 (.faddr 0 (tT 3)),
 oO 41 (.load false 1 (tT 40)),oO 42 (.faddr 1 (tT 3)),oO 43 (.load false 1 (tT 42)),oO 44 (kC 112 [(tT 39),(tT 41),(tT 43)]),oM 38 44,oO 45 (.extract (tT 38) 0),oO 46 (.extract (tT 38) 1),oM 6 45,oM 7 46]) (sQ (sQ (.region [oM 47 7,
 oO 48 (.bin .neq .num (tT 47) (kI 0))]) (.cond (tT 48) (.region [oM 49 0,oM 6 49]) .skip)) (sQ (.region [oO 8 (.mov (.const nS))]) (sQ (.region [oO 9 (.mov kF)]) (sQ (sQ (.region [oM 50 6,oO 51 (.len (tT 50)),
 oO 52 (.mov (kI 0))]) (.block 0 (.loop (sQ (.region [oO 53 (.bin .lss .num (tT 52) (tT 51))]) (sQ (.cond (tT 53) .skip (.exit 0)) (sQ (.block 1 (sQ (.region [oO 54 (.iaddr 3 (tT 50) (tT 52)),oO 55 (.load true 3 (tT 54)),
 oO 11 (.alloc [(.int .i64 0),(.int .i64 0),(.int .i64 0)]),⟨none,.store 3 (tT 11) (tT 55),none⟩]) (sQ (sQ (.region [oM 56 9,oO 57 (.una .not (tT 56)),oM 58 57,oT 58 59 (.load true 3 (tT 3)),oT 58 60 (.load true 3 (tT 11)),
 oT 58 61 (kC 113 [(tT 59),(tT 60)]),oO 62 (.pick (tT 58) (tT 61) kF)]) (.cond (tT 62) (sQ (.region [oM 63 8,oO 64 (.load true 3 (tT 3)),oO 65 (.bslice [(.int .i64 0),(.int .i64 0),(.int .i64 0)] 1 [(0,
 (tT 64))]),oO 66 (.append [(.int .i64 0),(.int .i64 0),(.int .i64 0)] 24 (tT 63) (tT 65)),oM 8 66]) (.region [oO 9 (.mov kT)])) .skip)) (.region [oM 67 8,oO 68 (.load true 3 (tT 11)),oO 69 (.bslice [(.int .i64 0),
 (.int .i64 0),(.int .i64 0)] 1 [(0,(tT 68))]),oO 70 (.append [(.int .i64 0),(.int .i64 0),(.int .i64 0)] 24 (tT 67) (tT 69)),oM 8 70])))) (.region [oO 71 (.bin .add .num (tT 52) (kI 1)),oM 52 71]))))))) (sQ (sQ (.region [oM 72 9,
 oO 73 (.una .not (tT 72))]) (.cond (tT 73) (.region [oM 74 8,oO 75 (.load true 3 (tT 3)),oO 76 (.bslice [(.int .i64 0),(.int .i64 0),(.int .i64 0)] 1 [(0,(tT 75))]),oO 77 (.append [(.int .i64 0),(.int .i64 0),
 (.int .i64 0)] 24 (tT 74) (tT 76)),oM 8 77]) .skip)) (sQ (.region [oM 78 8,oM 4 78,oO 5 (.mov (kI 0))]) .ret))))))))))
theorem ok92 : FnOk Tryz.prog 92 79 ir92 [.tmp 4, .tmp 5] := fnOk_of mixed Tryz.func92 (by kernel_rfl) Tryz.ntmps92 (by kernel_rfl) (by kernel_rfl)

def ir94 : ACode := (sQ (.region [oO 2 (.box (tT 0)),oO 3 (.box (tT 1)),oO 4 (.mov (kI 0))]) (sQ (sQ (.region [oO 5 (.iaddrA 2 1 (tT 2) (kI 0)),oO 6 (.load false 1 (tT 5)),oO 7 (.iaddrA 2 1 (tT 3) (kI 0)),
 oO 8 (.load false 1 (tT 7)),oO 9 (.bin .neq .num (tT 6) (tT 8))]) (.cond (tT 9) (sQ (.region [oO 10 (.iaddrA 2 1 (tT 2) (kI 0)),oO 11 (.load false 1 (tT 10)),oO 12 (.iaddrA 2 1 (tT 3) (kI 0)),oO 13 (.load false 1 (tT 12)),
 oO 14 (.bin .sub .num (tT 11) (tT 13)),oM 4 14]) .ret) .skip)) (sQ (.region [oO 15 (.iaddrA 2 1 (tT 2) (kI 1)),oO 16 (.load false 1 (tT 15)),oO 17 (.iaddrA 2 1 (tT 3) (kI 1)),oO 18 (.load false 1 (tT 17)),
 oO 19 (.bin .sub .num (tT 16) (tT 18)),oM 4 19]) .ret)))
theorem ok94 : FnOk Tryz.prog 94 20 ir94 [.tmp 4] := fnOk_of mixed Tryz.func94 (by kernel_rfl) Tryz.ntmps94 (by kernel_rfl) (by kernel_rfl)

def ir95 : ACode := (sQ (.region [oO 2 (.mov (.const nS))]) (sQ (.region [oM 3 0,oM 4 0,oO 5 (.len (tT 4)),oM 6 0,oO 7 (.len (tT 6)),oO 8 (.slc 2 (tT 3) none (some (tT 5)) (some (tT 7))),oM 2 8]) .ret))
theorem ok95 : FnOk Tryz.prog 95 9 ir95 [.tmp 2] := fnOk_of mixed Tryz.func95 (by kernel_rfl) Tryz.ntmps95 (by kernel_rfl) (by kernel_rfl)

def ir96 : ACode := (sQ (.region [oO 2 (.mov (.const nS))]) (sQ (sQ (.region [oM 6 0,oO 7 (.len (tT 6)),oO 8 (.bin .lss .num (tT 7) (kI 2))]) (.cond (tT 8) (sQ (.region [oM 9 0,oM 2 9]) .ret) .skip)) (sQ (sQ (.region [oO 3 (.mov (kI 1))]) (.block 0 (.loop (sQ (sQ (.region [oM 10 3,
 oM 11 0,oO 12 (.len (tT 11)),oO 13 (.bin .lss .num (tT 10) (tT 12))]) (.cond (tT 13) .skip (.exit 0))) (sQ (.block 1 (sQ (.draw [⟨0,oM 16 0,0,0,false⟩,⟨1,oM 17 3,0,0,false⟩,⟨2,oO 18 (.iaddr 2 (tT 16) (tT 17)),
 3,0,false⟩,⟨3,oO 19 (.load true 2 (tT 18)),7,0,false⟩,⟨4,oM 20 0,0,0,false⟩,⟨5,oM 21 3,0,0,false⟩,⟨6,oO 22 (.bin .sub .num (tT 21) (kI 1)),32,0,false⟩,⟨7,oO 23 (.iaddr 2 (tT 20) (tT 22)),112,0,false⟩,⟨8,
 oO 24 (.load true 2 (tT 23)),240,0,false⟩,⟨9,oO 25 (.bin .eql (.cells [0,0]) (tT 19) (tT 24)),511,1,false⟩]) (.cond (tT 25) (sQ (.region [oM 26 0,oM 27 3,oO 28 (.slc 2 (tT 26) (some (tT 27)) none none),
 oM 4 28]) (sQ (sQ (.region [oO 5 (.mov (kI 1))]) (.block 2 (.loop (sQ (sQ (.region [oM 29 5,oM 30 4,oO 31 (.len (tT 30)),oO 32 (.bin .lss .num (tT 29) (tT 31))]) (.cond (tT 32) .skip (.exit 2))) (sQ (.block 3 (sQ (.draw [⟨0,
 oM 35 4,0,0,false⟩,⟨1,oM 36 5,0,0,false⟩,⟨2,oO 37 (.iaddr 2 (tT 35) (tT 36)),3,0,false⟩,⟨3,oO 38 (.load true 2 (tT 37)),7,0,false⟩,⟨4,oM 39 4,0,0,false⟩,⟨5,oM 40 5,0,0,false⟩,⟨6,oO 41 (.bin .sub .num (tT 40) (kI 1)),
 32,0,false⟩,⟨7,oO 42 (.iaddr 2 (tT 39) (tT 41)),112,0,false⟩,⟨8,oO 43 (.load true 2 (tT 42)),240,0,false⟩,⟨9,oO 44 (.bin .neq (.cells [0,0]) (tT 38) (tT 43)),511,1,false⟩]) (.cond (tT 44) (sQ (.region [oM 45 0,
 oM 46 3,oM 47 4,oM 48 5,oO 49 (.iaddr 2 (tT 47) (tT 48)),oO 50 (.load true 2 (tT 49)),oO 51 (.iaddr 2 (tT 45) (tT 46)),⟨none,.store 2 (tT 51) (tT 50),none⟩]) (.region [oM 52 3,oO 53 (.bin .add .num (tT 52) (kI 1)),
 oM 3 53])) .skip))) (.region [oM 33 5,oO 34 (.bin .add .num (tT 33) (kI 1)),oM 5 34])))))) (sQ (.region [oM 54 0,oM 55 3,oO 56 (.slc 2 (tT 54) (some (tT 55)) none none),⟨none,.clear [(.int .i64 0),(.int .i64 0)] (tT 56),
 none⟩]) (sQ (.region [oM 57 0,oM 58 3,oO 59 (.slc 2 (tT 57) none (some (tT 58)) none),oM 2 59]) .ret)))) .skip))) (.region [oM 14 3,oO 15 (.bin .add .num (tT 14) (kI 1)),oM 3 15])))))) (sQ (.region [oM 60 0,
 oM 2 60]) .ret))))
theorem ok96 : FnOk Tryz.prog 96 61 ir96 [.tmp 2] := fnOk_of mixed Tryz.func96 (by kernel_rfl) Tryz.ntmps96 (by kernel_rfl) (by kernel_rfl)

end Go.Proofs.YtcoehdmpjflmlaaGreatDoor

namespace Go.Proofs.YtcoehdmpjflmlaaGreatDoor
set_option maxRecDepth 100000

def ir97 : ACode := (sQ (.region [oO 2 (.mov kF)]) (sQ (.region [oM 9 0,oO 10 (.nilck (tT 9)),oO 11 (.faddr 0 (tT 10)),oO 12 (.load false 1 (tT 11)),oO 13 (.mslice [(.int .i64 0)] 8 (tT 12) (tT 12)),oM 3 13]) (sQ (sQ (.region [oM 14 0,
 oO 15 (.nilck (tT 14)),oO 16 (.faddr 1 (tT 15)),oO 17 (.load false 1 (tT 16)),oO 18 (.len (tT 17)),oO 19 (.mov (kI 0))]) (.block 0 (.loop (sQ (.region [oO 20 (.bin .lss .num (tT 19) (tT 18))]) (sQ (.cond (tT 20) .skip (.exit 0)) (sQ (.block 1 (sQ (.region [oO 21 (.iaddr 2 (tT 17) (tT 19)),
 oO 22 (.load true 2 (tT 21)),oO 5 (.alloc [(.int .i64 0),(.int .i64 0)]),⟨none,.store 2 (tT 5) (tT 22),none⟩]) (.region [oM 23 3,oO 24 (.iaddrA 2 1 (tT 5) (kI 1)),oO 25 (.load false 1 (tT 24)),oO 26 (.iaddr 1 (tT 23) (tT 25)),
 oO 27 (.load false 1 (tT 26)),oO 28 (.bin .add .num (tT 27) (kI 1)),oO 29 (.iaddr 1 (tT 23) (tT 25)),⟨none,.store 1 (tT 29) (tT 28),none⟩]))) (.region [oO 30 (.bin .add .num (tT 19) (kI 1)),oM 19 30]))))))) (sQ (.block 2 (.loop (sQ (sQ (.draw [⟨0,
 oM 31 0,0,0,false⟩,⟨1,oO 32 (.nilck (tT 31)),1,0,false⟩,⟨2,oO 33 (.faddr 4 (tT 32)),3,0,false⟩,⟨3,oO 34 (.load false 1 (tT 33)),7,0,false⟩,⟨4,oO 35 (.len (tT 34)),15,0,false⟩,⟨5,oM 36 0,0,0,false⟩,⟨6,oO 37 (.nilck (tT 36)),
 32,0,false⟩,⟨7,oO 38 (.faddr 0 (tT 37)),96,0,false⟩,⟨8,oO 39 (.load false 1 (tT 38)),224,0,false⟩,⟨9,oO 40 (.bin .lss .num (tT 35) (tT 39)),511,1,false⟩]) (.cond (tT 40) .skip (.exit 2))) (.block 3 (sQ (.region [oM 41 3,
 oO 42 (kC 116 [(tT 41),(kI 0)]),oM 6 42]) (sQ (sQ (.region [oM 43 6,oO 44 (.bin .lss .num (tT 43) (kI 0))]) (.cond (tT 44) (sQ (.region [oO 2 (.mov kF)]) .ret) .skip)) (sQ (.region [oM 45 3,oM 46 6,oO 47 (.iaddr 1 (tT 45) (tT 46)),
 ⟨none,.store 1 (tT 47) (.const (.int .i64 (-1))),none⟩]) (sQ (.region [oM 48 0,oM 49 0,oO 50 (.nilck (tT 49)),oO 51 (.faddr 4 (tT 50)),oO 52 (.load false 1 (tT 51)),oM 53 6,oO 54 (.bslice [(.int .i64 0)] 1 [(0,
 (tT 53))]),oO 55 (.append [(.int .i64 0)] 8 (tT 52) (tT 54)),oO 56 (.nilck (tT 48)),oO 57 (.faddr 4 (tT 56)),⟨none,.store 1 (tT 57) (tT 55),none⟩]) (sQ (.region [oM 58 0,oO 59 (.nilck (tT 58)),oO 60 (.faddr 1 (tT 59)),
 oO 61 (.load false 1 (tT 60)),oO 62 (.len (tT 61)),oO 63 (.mov (kI 0))]) (.block 4 (.loop (sQ (.region [oO 64 (.bin .lss .num (tT 63) (tT 62))]) (sQ (.cond (tT 64) .skip (.exit 4)) (sQ (.block 5 (sQ (.region [oO 65 (.iaddr 2 (tT 61) (tT 63)),
 oO 66 (.load true 2 (tT 65)),oO 8 (.alloc [(.int .i64 0),(.int .i64 0)]),⟨none,.store 2 (tT 8) (tT 66),none⟩]) (sQ (.region [oO 67 (.iaddrA 2 1 (tT 8) (kI 0)),oO 68 (.load false 1 (tT 67)),oM 69 6,oO 70 (.bin .eql .num (tT 68) (tT 69))]) (.cond (tT 70) (.region [oM 71 3,
 oO 72 (.iaddrA 2 1 (tT 8) (kI 1)),oO 73 (.load false 1 (tT 72)),oO 74 (.iaddr 1 (tT 71) (tT 73)),oO 75 (.load false 1 (tT 74)),oO 76 (.bin .sub .num (tT 75) (kI 1)),oO 77 (.iaddr 1 (tT 71) (tT 73)),⟨none,
 .store 1 (tT 77) (tT 76),none⟩]) .skip)))) (.region [oO 78 (.bin .add .num (tT 63) (kI 1)),oM 63 78]))))))))))))))) (sQ (.region [oO 2 (.mov kT)]) .ret)))))
theorem ok97 : FnOk Tryz.prog 97 79 ir97 [.tmp 2] := fnOk_of mixed Tryz.func97 (by kernel_rfl) Tryz.ntmps97 (by kernel_rfl) (by kernel_rfl)

def ir98 : ACode := (sQ (.region [oO 1 (.box (tT 0))]) (sQ (.draw [⟨0,oO 10 (.load false 1 (tT 1)),0,0,false⟩,⟨1,oO 11 (.load false 1 (tT 1)),0,0,false⟩,⟨2,oO 12 (.load false 1 (tT 1)),0,0,false⟩,⟨3,oO 13 (.nilck (tT 12)),
 4,0,false⟩,⟨4,oO 14 (.faddr 0 (tT 13)),12,0,false⟩,⟨5,oO 15 (.load false 1 (tT 14)),28,0,false⟩,⟨6,oO 16 (.mslice [nS] 24 (tT 15) (tT 15)),60,0,false⟩,⟨7,oO 17 (.load false 1 (tT 1)),0,0,false⟩,⟨8,oO 18 (.nilck (tT 17)),
 128,0,false⟩,⟨9,oO 19 (.faddr 0 (tT 18)),384,0,false⟩,⟨10,oO 20 (.load false 1 (tT 19)),896,0,false⟩,⟨11,oO 21 (.mslice [nS] 24 (tT 20) (tT 20)),1920,0,false⟩,⟨12,oO 22 (.nilck (tT 10)),2045,0,false⟩,⟨13,
 oO 23 (.faddr 2 (tT 22)),6141,0,false⟩,⟨14,⟨none,.store 1 (tT 23) (tT 16),none⟩,14333,28666,false⟩,⟨15,oO 24 (.nilck (tT 11)),32767,1,false⟩,⟨16,oO 25 (.faddr 3 (tT 24)),65535,1,false⟩,⟨17,⟨none,.store 1 (tT 25) (tT 21),
 none⟩,131071,1,false⟩]) (sQ (.region [oO 26 (.load false 1 (tT 1)),oO 27 (.nilck (tT 26)),oO 28 (.faddr 0 (tT 27)),oO 29 (.load false 1 (tT 28)),oO 30 (.mslice [nS] 24 (tT 29) (tT 29)),oM 2 30]) (sQ (sQ (.region [oO 31 (.load false 1 (tT 1)),
 oO 32 (.nilck (tT 31)),oO 33 (.faddr 1 (tT 32)),oO 34 (.load false 1 (tT 33)),oO 35 (.len (tT 34)),oO 36 (.mov (kI 0))]) (.block 0 (.loop (sQ (.region [oO 37 (.bin .lss .num (tT 36) (tT 35))]) (sQ (.cond (tT 37) .skip (.exit 0)) (sQ (.block 1 (sQ (.region [oO 38 (.iaddr 2 (tT 34) (tT 36)),
 oO 39 (.load true 2 (tT 38)),oO 4 (.alloc [(.int .i64 0),(.int .i64 0)]),⟨none,.store 2 (tT 4) (tT 39),none⟩]) (.draw [⟨0,oM 40 2,0,0,false⟩,⟨1,oO 41 (.iaddrA 2 1 (tT 4) (kI 1)),0,0,false⟩,⟨2,oO 42 (.load false 1 (tT 41)),
 2,0,false⟩,⟨3,oM 43 2,0,0,false⟩,⟨4,oO 44 (.iaddrA 2 1 (tT 4) (kI 1)),0,0,false⟩,⟨5,oO 45 (.load false 1 (tT 44)),16,0,false⟩,⟨6,oO 46 (.iaddr 1 (tT 43) (tT 45)),56,0,false⟩,⟨7,oO 47 (.load false 1 (tT 46)),
 120,0,false⟩,⟨8,oO 48 (.iaddrA 2 1 (tT 4) (kI 0)),0,0,false⟩,⟨9,oO 49 (.load false 1 (tT 48)),256,0,false⟩,⟨10,oO 50 (.bslice [(.int .i64 0)] 1 [(0,(tT 49))]),768,0,false⟩,⟨11,oO 51 (.append [(.int .i64 0)] 8 (tT 47) (tT 50)),
 2040,4080,false⟩,⟨12,oO 52 (.iaddr 1 (tT 40) (tT 42)),4095,1,false⟩,⟨13,⟨none,.store 1 (tT 52) (tT 51),none⟩,8191,1,false⟩]))) (.region [oO 53 (.bin .add .num (tT 36) (kI 1)),oM 36 53]))))))) (sQ (.region [oO 54 (.load false 1 (tT 1)),
 oO 55 (.nilck (tT 54)),oO 56 (.faddr 4 (tT 55)),oO 57 (.load false 1 (tT 56)),oO 58 (.len (tT 57)),oO 59 (.mov (kI 0))]) (.block 2 (.loop (sQ (.region [oO 60 (.bin .lss .num (tT 59) (tT 58))]) (sQ (.cond (tT 60) .skip (.exit 2)) (sQ (.block 3 (sQ (.region [oO 61 (.iaddr 1 (tT 57) (tT 59)),
 oO 62 (.load false 1 (tT 61)),oO 6 (.alloc [(.int .i64 0)]),⟨none,.store 1 (tT 6) (tT 62),none⟩]) (sQ (sQ (.region [oM 63 2,oO 64 (.load false 1 (tT 6)),oO 65 (.iaddr 1 (tT 63) (tT 64)),oO 66 (.load false 1 (tT 65)),
 oO 67 (.len (tT 66)),oO 68 (.mov (kI 0))]) (.block 4 (.loop (sQ (.region [oO 69 (.bin .lss .num (tT 68) (tT 67))]) (sQ (.cond (tT 69) .skip (.exit 4)) (sQ (.block 5 (sQ (.region [oO 70 (.iaddr 1 (tT 66) (tT 68)),
 oO 71 (.load false 1 (tT 70)),oM 8 71]) (.draw [⟨0,oO 72 (.load false 1 (tT 1)),0,0,false⟩,⟨1,oO 73 (.nilck (tT 72)),1,0,false⟩,⟨2,oO 74 (.faddr 2 (tT 73)),3,0,false⟩,⟨3,oO 75 (.load false 1 (tT 74)),7,
 0,false⟩,⟨4,oO 76 (.load false 1 (tT 6)),0,0,false⟩,⟨5,oO 77 (.load false 1 (tT 1)),0,0,false⟩,⟨6,oO 78 (.nilck (tT 77)),32,0,false⟩,⟨7,oO 79 (.faddr 2 (tT 78)),96,0,false⟩,⟨8,oO 80 (.load false 1 (tT 79)),
 224,0,false⟩,⟨9,oO 81 (.load false 1 (tT 6)),0,0,false⟩,⟨10,oO 82 (.iaddr 1 (tT 80) (tT 81)),992,0,false⟩,⟨11,oO 83 (.load true 1 (tT 82)),2016,0,false⟩,⟨12,oO 84 (.load false 1 (tT 1)),0,0,false⟩,⟨13,
 oO 85 (.nilck (tT 84)),4096,0,false⟩,⟨14,oO 86 (.faddr 2 (tT 85)),12288,0,false⟩,⟨15,oO 87 (.load false 1 (tT 86)),28672,0,false⟩,⟨16,oM 88 8,0,0,false⟩,⟨17,oO 89 (.iaddr 1 (tT 87) (tT 88)),126976,0,false⟩,
 ⟨18,oO 90 (.load true 1 (tT 89)),258048,0,false⟩,⟨19,oO 91 (kC 10 [(tT 83),(tT 90)]),524256,0,false⟩,⟨20,oM 92 8,0,0,false⟩,⟨21,oO 93 (kC 42 [(tT 91),(tT 92)]),2097120,0,false⟩,⟨22,oO 94 (.iaddr 1 (tT 75) (tT 76)),
 4194303,1,false⟩,⟨23,⟨none,.store 1 (tT 94) (tT 93),none⟩,8388607,1,false⟩]))) (.region [oO 95 (.bin .add .num (tT 68) (kI 1)),oM 68 95]))))))) (sQ (.draw [⟨0,oO 96 (.load false 1 (tT 1)),0,0,false⟩,⟨1,
 oO 97 (.nilck (tT 96)),1,0,false⟩,⟨2,oO 98 (.faddr 2 (tT 97)),3,0,false⟩,⟨3,oO 99 (.load false 1 (tT 98)),7,0,false⟩,⟨4,oO 100 (.load false 1 (tT 6)),0,0,false⟩,⟨5,oO 101 (.iaddr 1 (tT 99) (tT 100)),31,
 1,false⟩,⟨6,oO 102 (.load true 1 (tT 101)),63,1,false⟩,⟨7,oO 103 (kC 52 [(tT 102)]),127,1,false⟩]) (.block 6 (.range (tT 103) [104] [(9,(tT 104))] (.block 7 (.draw [⟨0,oO 105 (.load false 1 (tT 1)),0,0,
 false⟩,⟨1,oO 106 (.nilck (tT 105)),1,0,false⟩,⟨2,oO 107 (.faddr 3 (tT 106)),3,0,false⟩,⟨3,oO 108 (.load false 1 (tT 107)),7,0,false⟩,⟨4,oM 109 9,0,0,false⟩,⟨5,oO 110 (.load false 1 (tT 1)),0,0,false⟩,⟨6,
 oO 111 (.nilck (tT 110)),32,0,false⟩,⟨7,oO 112 (.faddr 3 (tT 111)),96,0,false⟩,⟨8,oO 113 (.load false 1 (tT 112)),224,0,false⟩,⟨9,oM 114 9,0,0,false⟩,⟨10,oO 115 (.iaddr 1 (tT 113) (tT 114)),992,0,false⟩,
 ⟨11,oO 116 (.load true 1 (tT 115)),2016,0,false⟩,⟨12,oO 117 (.load false 1 (tT 6)),0,0,false⟩,⟨13,oO 118 (kC 42 [(tT 116),(tT 117)]),8160,0,false⟩,⟨14,oO 119 (.iaddr 1 (tT 108) (tT 109)),16383,1,false⟩,
 ⟨15,⟨none,.store 1 (tT 119) (tT 118),none⟩,32767,1,false⟩])))))))) (.region [oO 120 (.bin .add .num (tT 59) (kI 1)),oM 59 120])))))))))))
theorem ok98 : FnOk Tryz.prog 98 121 ir98 [] := fnOk_of mixed Tryz.func98 (by kernel_rfl) Tryz.ntmps98 (by kernel_rfl) (by kernel_rfl)

def ir99 : ACode := (sQ (.region [oO 3 (.box (tT 1)),oO 4 (.mov kF)]) (sQ (.region [oM 5 0,oO 6 (.load true 2 (tT 3)),oO 7 (kC 77 [(tT 5),(tT 6)]),oO 8 (.bin .geq .num (tT 7) (kI 0)),oM 4 8]) .ret))
theorem ok99 : FnOk Tryz.prog 99 9 ir99 [.tmp 4] := fnOk_of mixed Tryz.func99 (by kernel_rfl) Tryz.ntmps99 (by kernel_rfl) (by kernel_rfl)

def ir108 : ACode := (sQ (.region [oO 1 (.box (tT 0)),oO 2 (.mov (kI 0))]) (sQ (.region [oO 3 (.mov (kI 0))]) (sQ (sQ (.region [oO 6 (.faddr 0 (tT 1)),oO 7 (.load false 1 (tT 6)),oO 8 (.len (tT 7)),oO 9 (.mov (kI 0))]) (.block 0 (.loop (sQ (.region [oO 10 (.bin .lss .num (tT 9) (tT 8))]) (sQ (.cond (tT 10) .skip (.exit 0)) (sQ (.block 1 (sQ (.region [oO 11 (.iaddr 1 (tT 7) (tT 9)),
 oO 12 (.load false 1 (tT 11)),oM 5 12]) (.region [oM 13 3,oM 14 5,oO 15 (kC 120 [(tT 14)]),oO 16 (.bin .add .num (tT 13) (tT 15)),oM 3 16]))) (.region [oO 17 (.bin .add .num (tT 9) (kI 1)),oM 9 17]))))))) (sQ (.region [oM 18 3,
 oM 2 18]) .ret))))
theorem ok108 : FnOk Tryz.prog 108 19 ir108 [.tmp 2] := fnOk_of mixed Tryz.func108 (by kernel_rfl) Tryz.ntmps108 (by kernel_rfl) (by kernel_rfl)

def ir109 : ACode := (sQ (.region [oO 1 (.box (tT 0)),oO 2 (.mov (kI 0)),oO 3 (.mov (kI 0))]) (sQ (sQ (.region [oO 8 (.faddr 3 (tT 1)),oO 9 (.load false 1 (tT 8)),oO 10 (.len (tT 9)),oO 11 (.mov (kI 0))]) (.block 0 (.loop (sQ (.region [oO 12 (.bin .lss .num (tT 11) (tT 10))]) (sQ (.cond (tT 12) .skip (.exit 0)) (sQ (.block 1 (sQ (.region [oO 13 (.iaddr 4 (tT 9) (tT 11)),
 oO 14 (.load true 4 (tT 13)),oO 5 (.alloc [(.int .u8 0),(.int .i64 0),nS,nS]),⟨none,.store 4 (tT 5) (tT 14),none⟩]) (sQ (.region [oO 16 (.load true 4 (tT 5)),oO 17 (kC 109 [(tT 16)]),oM 15 17,oO 18 (.extract (tT 15) 0),
 oO 19 (.extract (tT 15) 1),oM 6 18,oM 7 19]) (.region [oM 20 2,oM 21 6,oO 22 (.mx (tT 20) (tT 21)),oM 23 3,oM 24 7,oO 25 (.bin .add .num (tT 23) (tT 24)),oM 2 22,oM 3 25])))) (.region [oO 26 (.bin .add .num (tT 11) (kI 1)),
 oM 11 26]))))))) (sQ (.region [oM 27 2,oO 28 (.bin .add .num (tT 27) (kI 1)),oM 29 3,oO 30 (.bin .add .num (tT 29) (kI 1)),oM 2 28,oM 3 30]) .ret)))
theorem ok109 : FnOk Tryz.prog 109 31 ir109 [.tmp 2, .tmp 3] := fnOk_of mixed Tryz.func109 (by kernel_rfl) Tryz.ntmps109 (by kernel_rfl) (by kernel_rfl)

def ir110 : ACode := (sQ (.region [oO 2 (.box (tT 0)),oO 4 (.mov (kI 0))]) (sQ (sQ (.region [oO 10 (.load true 4 (tT 2)),oO 11 (kC 121 [(tT 10)]),oM 5 11]) (sQ (.region [oM 12 5,oO 13 (.bin .neq .num (tT 12) (kI 0))]) (.cond (tT 13) (sQ (.region [oM 14 5,
 oM 4 14]) .ret) .skip))) (sQ (.region [oO 15 (.faddr 0 (tT 2)),oO 16 (.load false 1 (tT 15)),oO 17 (.bin .eql .num (tT 16) (.const (.int .u8 4))),oM 18 17,oF 18 19 (.faddr 0 (tT 2)),oF 18 20 (.load false 1 (tT 19)),
 oF 18 21 (.bin .eql .num (tT 20) (.const (.int .u8 5))),oO 22 (.pick (tT 18) kT (tT 21)),oM 6 22]) (sQ (sQ (.region [oM 23 1,oO 24 (.bin .eql .num (tT 23) (.const (.int .u8 3))),oM 25 24,oT 25 26 (.mov (tT 6)),
 oO 27 (.pick (tT 25) (tT 26) kF),oM 28 27,oF 28 29 (.mov (tT 1)),oF 28 30 (.bin .neq .num (tT 29) (.const (.int .u8 0))),oF 28 31 (.mov (tT 30)),oT 31 32 (.mov (tT 1)),oT 31 33 (.bin .neq .num (tT 32) (.const (.int .u8 3))),
 oF 28 34 (.pick (tT 31) (tT 33) kF),oF 28 35 (.mov (tT 34)),oT 35 36 (.faddr 0 (tT 2)),oT 35 37 (.load false 1 (tT 36)),oT 35 38 (.bin .eql .num (tT 37) (.const (.int .u8 6))),oF 28 39 (.pick (tT 35) (tT 38) kF),
 oO 40 (.pick (tT 28) kT (tT 39))]) (.cond (tT 40) (sQ (.region [oO 4 (.mov (kI 10))]) .ret) .skip)) (sQ (sQ (.region [oO 41 (.faddr 3 (tT 2)),oO 42 (.load false 1 (tT 41)),oO 43 (.len (tT 42)),oO 44 (.mov (kI 0))]) (.block 0 (.loop (sQ (.region [oO 45 (.bin .lss .num (tT 44) (tT 43))]) (sQ (.cond (tT 45) .skip (.exit 0)) (sQ (.block 1 (sQ (.region [oO 46 (.iaddr 4 (tT 42) (tT 44)),
 oO 47 (.load true 4 (tT 46)),oO 8 (.alloc [(.int .u8 0),(.int .i64 0),nS,nS]),⟨none,.store 4 (tT 8) (tT 47),none⟩]) (sQ (.region [oO 48 (.load true 4 (tT 8)),oM 49 1,oO 50 (kC 110 [(tT 48),(tT 49)]),oM 9 50]) (sQ (.region [oM 51 9,
 oO 52 (.bin .neq .num (tT 51) (kI 0))]) (.cond (tT 52) (sQ (.region [oM 53 9,oM 4 53]) .ret) .skip))))) (.region [oO 54 (.bin .add .num (tT 44) (kI 1)),oM 44 54]))))))) (sQ (.region [oO 4 (.mov (kI 0))]) .ret))))))
theorem ok110 : FnOk Tryz.prog 110 55 ir110 [.tmp 4] := fnOk_of mixed Tryz.func110 (by kernel_rfl) Tryz.ntmps110 (by kernel_rfl) (by kernel_rfl)

def ir111 : ACode := (sQ (.region [oO 6 (.mov kF)]) (sQ (sQ (.region [oM 9 0,oO 10 (.len (tT 9)),oO 11 (.mov (kI 0))]) (.block 0 (.loop (sQ (.region [oO 12 (.bin .lss .num (tT 11) (tT 10))]) (sQ (.cond (tT 12) .skip (.exit 0)) (sQ (.block 1 (sQ (.region [oO 13 (.iaddr 2 (tT 9) (tT 11)),
 oO 14 (.load true 2 (tT 13)),oO 8 (.alloc [(.int .i64 0),(.int .i64 0)]),⟨none,.store 2 (tT 8) (tT 14),none⟩]) (sQ (.region [oO 15 (.iaddrA 2 1 (tT 8) (kI 0)),oO 16 (.load false 1 (tT 15)),oM 17 1,oO 18 (.bin .eql .num (tT 16) (tT 17)),
 oM 19 18,oT 19 20 (.iaddrA 2 1 (tT 8) (kI 1)),oT 19 21 (.load false 1 (tT 20)),oT 19 22 (.mov (tT 2)),oT 19 23 (.bin .eql .num (tT 21) (tT 22)),oO 24 (.pick (tT 19) (tT 23) kF)]) (.cond (tT 24) (sQ (.region [oO 6 (.mov kT)]) .ret) .skip)))) (.region [oO 25 (.bin .add .num (tT 11) (kI 1)),
 oM 11 25]))))))) (sQ (.region [oO 6 (.mov kF)]) .ret)))
theorem ok111 : FnOk Tryz.prog 111 26 ir111 [.tmp 6] := fnOk_of mixed Tryz.func111 (by kernel_rfl) Tryz.ntmps111 (by kernel_rfl) (by kernel_rfl)

def ir112 : ACode := (sQ (.region [oO 6 (.mov (.const nS)),oO 7 (.mov (kI 0))]) (sQ (.region [oO 8 (.mov (.const nS))]) (sQ (sQ (.region [oM 11 0,oO 12 (.len (tT 11)),oO 13 (.mov (kI 0))]) (.block 0 (.loop (sQ (.region [oO 14 (.bin .lss .num (tT 13) (tT 12))]) (sQ (.cond (tT 14) .skip (.exit 0)) (sQ (.block 1 (sQ (.region [oO 15 (.iaddr 3 (tT 11) (tT 13)),
 oO 16 (.load true 3 (tT 15)),oO 10 (.alloc [(.int .i64 0),(.int .i64 0),(.int .i64 0)]),⟨none,.store 3 (tT 10) (tT 16),none⟩]) (sQ (.region [oO 17 (.faddr 0 (tT 10)),oO 18 (.load false 1 (tT 17)),oM 19 1,
 oO 20 (.bin .neq .num (tT 18) (tT 19)),oM 21 20,oF 21 22 (.faddr 1 (tT 10)),oF 21 23 (.load false 1 (tT 22)),oF 21 24 (.mov (tT 2)),oF 21 25 (.bin .neq .num (tT 23) (tT 24)),oO 26 (.pick (tT 21) kT (tT 25))]) (.cond (tT 26) (.region [oM 27 8,
 oO 28 (.load true 3 (tT 10)),oO 29 (.bslice [(.int .i64 0),(.int .i64 0),(.int .i64 0)] 1 [(0,(tT 28))]),oO 30 (.append [(.int .i64 0),(.int .i64 0),(.int .i64 0)] 24 (tT 27) (tT 29)),oM 8 30]) .skip)))) (.region [oO 31 (.bin .add .num (tT 13) (kI 1)),
 oM 13 31]))))))) (sQ (sQ (.region [oM 32 8,oO 33 (.len (tT 32)),oM 34 0,oO 35 (.len (tT 34)),oO 36 (.bin .eql .num (tT 33) (tT 35))]) (.cond (tT 36) (sQ (.region [oO 6 (.mov (.const nS)),oO 7 (.mov (kI 4))]) .ret) .skip)) (sQ (.region [oM 37 8,
 oM 6 37,oO 7 (.mov (kI 0))]) .ret)))))
theorem ok112 : FnOk Tryz.prog 112 38 ir112 [.tmp 6, .tmp 7] := fnOk_of mixed Tryz.func112 (by kernel_rfl) Tryz.ntmps112 (by kernel_rfl) (by kernel_rfl)

def ir113 : ACode := (sQ (.region [oO 2 (.box (tT 0)),oO 3 (.box (tT 1)),oO 4 (.mov kF)]) (sQ (.region [oO 5 (.faddr 0 (tT 2)),oO 6 (.load false 1 (tT 5)),oO 7 (.faddr 0 (tT 3)),oO 8 (.load false 1 (tT 7)),
 oO 9 (.bin .lss .num (tT 6) (tT 8)),oM 10 9,oF 10 11 (.faddr 0 (tT 2)),oF 10 12 (.load false 1 (tT 11)),oF 10 13 (.faddr 0 (tT 3)),oF 10 14 (.load false 1 (tT 13)),oF 10 15 (.bin .eql .num (tT 12) (tT 14)),
 oF 10 16 (.mov (tT 15)),oT 16 17 (.faddr 1 (tT 2)),oT 16 18 (.load false 1 (tT 17)),oT 16 19 (.faddr 1 (tT 3)),oT 16 20 (.load false 1 (tT 19)),oT 16 21 (.bin .lss .num (tT 18) (tT 20)),oF 10 22 (.pick (tT 16) (tT 21) kF),
 oO 23 (.pick (tT 10) kT (tT 22)),oM 4 23]) .ret))
theorem ok113 : FnOk Tryz.prog 113 24 ir113 [.tmp 4] := fnOk_of mixed Tryz.func113 (by kernel_rfl) Tryz.ntmps113 (by kernel_rfl) (by kernel_rfl)

def ir116 : ACode := (sQ (.region [oO 4 (.mov (kI 0))]) (sQ (sQ (.region [oM 6 0,oO 7 (.len (tT 6)),oO 8 (.mov (kI 0))]) (.block 0 (.loop (sQ (.region [oO 9 (.bin .lss .num (tT 8) (tT 7))]) (sQ (.cond (tT 9) .skip (.exit 0)) (sQ (.block 1 (sQ (.region [oM 10 8,
 oM 5 10]) (sQ (.region [oM 11 1,oM 12 0,oM 13 5,oO 14 (.iaddr 1 (tT 12) (tT 13)),oO 15 (.load false 1 (tT 14)),oO 16 (.bin .eql .num (tT 11) (tT 15))]) (.cond (tT 16) (sQ (.region [oM 17 5,oM 4 17]) .ret) .skip)))) (.region [oO 18 (.bin .add .num (tT 8) (kI 1)),
 oM 8 18]))))))) (sQ (.region [oO 4 (.mov (.const (.int .i64 (-1))))]) .ret)))
theorem ok116 : FnOk Tryz.prog 116 19 ir116 [.tmp 4] := fnOk_of mixed Tryz.func116 (by kernel_rfl) Tryz.ntmps116 (by kernel_rfl) (by kernel_rfl)

def ir120 : ACode := (sQ (.region [oO 2 (.mov (kI 0))]) (sQ (.region [oM 3 0,oO 4 (.bin .shr .num (tT 3) (.const (.int .u64 1))),oO 5 (.bin .and .num (tT 4) (.const (.int .u64 6148914691236517205))),oM 6 0,
 oO 7 (.bin .and .num (tT 6) (.const (.int .u64 6148914691236517205))),oO 8 (.bin .add .num (tT 5) (tT 7)),oM 0 8]) (sQ (.region [oM 9 0,oO 10 (.bin .shr .num (tT 9) (.const (.int .u64 2))),oO 11 (.bin .and .num (tT 10) (.const (.int .u64 3689348814741910323))),
 oM 12 0,oO 13 (.bin .and .num (tT 12) (.const (.int .u64 3689348814741910323))),oO 14 (.bin .add .num (tT 11) (tT 13)),oM 0 14]) (sQ (.region [oM 15 0,oO 16 (.bin .shr .num (tT 15) (.const (.int .u64 4))),
 oM 17 0,oO 18 (.bin .add .num (tT 16) (tT 17)),oO 19 (.bin .and .num (tT 18) (.const (.int .u64 1085102592571150095))),oM 0 19]) (sQ (.region [oM 20 0,oM 21 0,oO 22 (.bin .shr .num (tT 21) (.const (.int .u64 8))),
 oO 23 (.bin .add .num (tT 20) (tT 22)),oM 0 23]) (sQ (.region [oM 24 0,oM 25 0,oO 26 (.bin .shr .num (tT 25) (.const (.int .u64 16))),oO 27 (.bin .add .num (tT 24) (tT 26)),oM 0 27]) (sQ (.region [oM 28 0,
 oM 29 0,oO 30 (.bin .shr .num (tT 29) (.const (.int .u64 32))),oO 31 (.bin .add .num (tT 28) (tT 30)),oM 0 31]) (sQ (.region [oM 32 0,oO 33 (.conv .i64 (tT 32)),oO 34 (.bin .and .num (tT 33) (kI 127)),
 oM 2 34]) .ret))))))))
theorem ok120 : FnOk Tryz.prog 120 35 ir120 [.tmp 2] := fnOk_of mixed Tryz.func120 (by kernel_rfl) Tryz.ntmps120 (by kernel_rfl) (by kernel_rfl)

def ir121 : ACode := (sQ (.region [oO 1 (.box (tT 0)),oO 2 (.mov (kI 0))]) (sQ (.region [oO 9 (.faddr 0 (tT 1)),oO 10 (.load false 1 (tT 9)),oO 11 (kC 132 [(tT 10)]),oM 8 11,oO 12 (.extract (tT 8) 0),oO 13 (.extract (tT 8) 1),
 oO 14 (.extract (tT 8) 2),oM 3 12,oM 4 13,oM 5 14]) (sQ (sQ (.region [oO 15 (.faddr 0 (tT 1)),oO 16 (.load false 1 (tT 15)),oO 17 (.bin .lss .num (tT 16) (.const (.int .u8 1))),oM 18 17,oF 18 19 (.faddr 0 (tT 1)),
 oF 18 20 (.load false 1 (tT 19)),oF 18 21 (.bin .gtr .num (tT 20) (.const (.int .u8 16))),oO 22 (.pick (tT 18) kT (tT 21)),oM 23 22,oF 23 24 (.faddr 3 (tT 1)),oF 23 25 (.load false 1 (tT 24)),oF 23 26 (.len (tT 25)),
 oF 23 27 (.mov (tT 3)),oF 23 28 (.bin .neq .num (tT 26) (tT 27)),oO 29 (.pick (tT 23) kT (tT 28))]) (.cond (tT 29) (sQ (.region [oO 2 (.mov (kI 1))]) .ret) .skip)) (sQ (sQ (.region [oO 30 (.faddr 0 (tT 1)),
 oO 31 (.load false 1 (tT 30)),oO 32 (.bin .neq .num (tT 31) (.const (.int .u8 1))),oM 33 32,oT 33 34 (.faddr 1 (tT 1)),oT 33 35 (.load false 1 (tT 34)),oT 33 36 (.bin .neq .num (tT 35) (kI 0)),oO 37 (.pick (tT 33) (tT 36) kF),
 oM 38 37,oF 38 39 (.faddr 2 (tT 1)),oF 38 40 (.load false 1 (tT 39)),oF 38 41 (.len (tT 40)),oF 38 42 (.mov (tT 4)),oF 38 43 (.bin .lss .num (tT 41) (tT 42)),oO 44 (.pick (tT 38) kT (tT 43)),oM 45 44,oF 45 46 (.faddr 2 (tT 1)),
 oF 45 47 (.load false 1 (tT 46)),oF 45 48 (.len (tT 47)),oF 45 49 (.mov (tT 5)),oF 45 50 (.bin .gtr .num (tT 48) (tT 49)),oO 51 (.pick (tT 45) kT (tT 50))]) (.cond (tT 51) (sQ (.region [oO 2 (.mov (kI 6))]) .ret) .skip)) (sQ (sQ (.region [oO 52 (.faddr 1 (tT 1)),
 oO 53 (.load false 1 (tT 52)),oO 54 (.bin .lss .num (tT 53) (kI 0)),oM 55 54,oF 55 56 (.faddr 1 (tT 1)),oF 55 57 (.load false 1 (tT 56)),oF 55 58 (.bin .gtr .num (tT 57) (kI 999999)),oO 59 (.pick (tT 55) kT (tT 58))]) (.cond (tT 59) (sQ (.region [oO 2 (.mov (kI 2))]) .ret) .skip)) (sQ (sQ (.region [oO 60 (.faddr 2 (tT 1)),
 oO 61 (.load false 1 (tT 60)),oO 62 (.len (tT 61)),oO 63 (.mov (kI 0))]) (.block 0 (.loop (sQ (.region [oO 64 (.bin .lss .num (tT 63) (tT 62))]) (sQ (.cond (tT 64) .skip (.exit 0)) (sQ (.block 1 (sQ (.region [oO 65 (.iaddr 1 (tT 61) (tT 63)),
 oO 66 (.load false 1 (tT 65)),oM 7 66]) (sQ (.region [oM 67 7,oO 68 (.bin .lss .num (tT 67) (kI 1)),oM 69 68,oF 69 70 (.mov (tT 7)),oF 69 71 (.bin .gtr .num (tT 70) (kI 63)),oO 72 (.pick (tT 69) kT (tT 71))]) (.cond (tT 72) (sQ (.region [oO 2 (.mov (kI 2))]) .ret) .skip)))) (.region [oO 73 (.bin .add .num (tT 63) (kI 1)),
 oM 63 73]))))))) (sQ (sQ (.draw [⟨0,oO 74 (.faddr 2 (tT 1)),0,0,false⟩,⟨1,oO 75 (.load false 1 (tT 74)),1,0,false⟩,⟨2,oO 76 (kC 28 [(tT 75)]),3,0,false⟩,⟨3,oO 77 (kC 108 [(tT 76)]),7,0,false⟩,⟨4,oO 78 (.faddr 2 (tT 1)),
 0,0,false⟩,⟨5,oO 79 (.load false 1 (tT 78)),16,0,false⟩,⟨6,oO 80 (.len (tT 79)),48,0,false⟩,⟨7,oO 81 (.bin .neq .num (tT 77) (tT 80)),127,1,false⟩]) (.cond (tT 81) (sQ (.region [oO 2 (.mov (kI 5))]) .ret) .skip)) (sQ (.region [oO 2 (.mov (kI 0))]) .ret))))))))
theorem ok121 : FnOk Tryz.prog 121 82 ir121 [.tmp 2] := fnOk_of mixed Tryz.func121 (by kernel_rfl) Tryz.ntmps121 (by kernel_rfl) (by kernel_rfl)

def ir132 : ACode := (sQ (.region [oO 2 (.mov (kI 0)),oO 3 (.mov (kI 0)),oO 4 (.mov (kI 0))]) (sQ (.block 0 (sQ (.region [oM 6 0,oO 7 (.bin .geq .num (tT 6) (.const (.int .u8 8))),oM 5 7]) (.cond (tT 5) (sQ (.region [oO 2 (.mov (kI 2)),
 oO 3 (.mov (kI 0)),oO 4 (.mov (kI 0))]) .ret) (sQ (.region [oM 9 0,oO 10 (.bin .eql .num (tT 9) (.const (.int .u8 7))),oM 8 10]) (.cond (tT 8) (sQ (.region [oO 2 (.mov (kI 1)),oO 3 (.mov (kI 0)),oO 4 (.mov (kI 0))]) .ret) (sQ (.region [oM 12 0,
 oO 13 (.bin .eql .num (tT 12) (.const (.int .u8 4))),oM 14 13,oF 14 15 (.mov (tT 0)),oF 14 16 (.bin .eql .num (tT 15) (.const (.int .u8 6))),oO 17 (.pick (tT 14) kT (tT 16)),oM 11 17]) (.cond (tT 11) (sQ (.region [oO 2 (.mov (kI 0)),
 oO 3 (.mov (kI 1)),oO 4 (.mov (kI 1))]) .ret) (sQ (.region [oM 19 0,oO 20 (.bin .eql .num (tT 19) (.const (.int .u8 5))),oM 18 20]) (.cond (tT 18) (sQ (.region [oO 2 (.mov (kI 0)),oO 3 (.mov (kI 1)),oO 4 (.mov (kI 8))]) .ret) .skip))))))))) (sQ (.region [oO 2 (.mov (kI 0)),
 oO 3 (.mov (kI 0)),oO 4 (.mov (kI 0))]) .ret)))
theorem ok132 : FnOk Tryz.prog 132 21 ir132 [.tmp 2, .tmp 3, .tmp 4] := fnOk_of mixed Tryz.func132 (by kernel_rfl) Tryz.ntmps132 (by kernel_rfl) (by kernel_rfl)

end Go.Proofs.YtcoehdmpjflmlaaGreatDoor

namespace Go.Proofs.YtcoehdmpjflmlaaGreatDoor
open Go.RowKit
set_option linter.unusedVariables false
set_option linter.unusedSimpArgs false

attribute [local irreducible] aw opsK dK

section
variable {P : Program} {C : Ctx} {e : Env} {h : Heap} {n : Nat} {K : Nat→Env→Heap→Prop} {os : List AOper} {d : Option Nat} {Q : Exit→Nat→Env→Heap→Prop}

def wantV (g : Option (Nat × Bool)) (e : Env) : Option Bool :=
 match g with
 | none => some true
 | some (s, b) => match e s with
   | some (.val (.bool c)) => some (c == b)
   | some (.val (.tuple _)) => some false
   | _ => none

theorem wantK_of {g : Option (Nat × Bool)} {A B : Prop} {b : Bool} (h : wantV g e = some b) (hk : if b = true then A else B) : wantK g e A B := by
 unfold wantV at h
 unfold wantK
 split at h
 · cases h; exact hk
 · split at h
   · rename_i c hc
     cases h
     try simp only [hc]
     split
     · rename_i hcb; subst hcb; simpa using hk
     · rename_i hcb; simpa [hcb] using hk
   · rename_i c hc
     cases h
     try simp only [hc]
     simpa using hk
   · cases h

theorem subA_refl : SubA n e h n e h := fun _ _ _ h => h
theorem opsK_on {op : AOp} {g : Nat × Bool} (hw : wantV (some g) e = some true) (hk : opsK P (⟨d,op,none⟩ :: os) n e h K) : opsK P (⟨d,op,some g⟩ :: os) n e h K := by
 unfold opsK at hk ⊢
 exact wantK_of hw (by simpa [wantK] using hk)
theorem opsK_sub {n' : Nat} {e' : Env} {h' : Heap} (hs : SubA n e h n' e' h') {op : AOp} (hk : opsK P (⟨d,op,none⟩ :: os) n' e' h' K) : opsK P (⟨d,op,none⟩ :: os) n e h K := by
 unfold opsK at hk ⊢
 simp only [wantK] at hk ⊢
 obtain ⟨n1,e1,h1,hs1,hk⟩ := hk
 exact ⟨n1,e1,h1,fun C a w hst => hs1 C a w (hs C a w hst),hk⟩
theorem opsK_off {op : AOp} {g : Nat × Bool} (hw : wantV (some g) e = some false) (hk : opsK P os n (updO e d pvu) h K) : opsK P (⟨d,op,some g⟩ :: os) n e h K := by
 unfold opsK
 exact wantK_of hw (by simpa using hk)

theorem opsK_of' {op : AOp} {p : PV} {h' : Heap} (hd : dEval op e h n = some (p,h') ∨ fEval op e h n = some (p,h')) (hn : isCall op = false) (hk : opsK P os (bmp h' n) (updO e d p) h' K) : opsK P (⟨d,op,none⟩ :: os) n e h K := by
 unfold opsK
 exact ⟨n,e,h,subA_refl,.inl (opK_det hn hd hk)⟩
theorem bmp_none (hz : h n = none) : bmp h n = n := by simp [bmp,hz]
theorem bmp_some {b : Bx} (hz : h n = some b) : bmp h n = n + 1 := by simp [bmp,hz]
theorem opsK_of {op : AOp} {p : PV} {h' : Heap} (hd : dEval op e h n = some (p,h')) (hn : isCall op = false) (hz : h' n = none) (hk : opsK P os n (updO e d p) h' K) : opsK P (⟨d,op,none⟩ :: os) n e h K :=
 opsK_of' (.inl hd) hn (by rw [bmp_none hz]; exact hk)
theorem opsK_new {op : AOp} {p : PV} {h' : Heap} {b : Bx} (hd : dEval op e h n = some (p,h')) (hn : isCall op = false) (hz : h' n = some b) (hk : opsK P os (n + 1) (updO e d p) h' K) : opsK P (⟨d,op,none⟩ :: os) n e h K :=
 opsK_of' (.inl hd) hn (by rw [bmp_some hz]; exact hk)
theorem opsK_ofAlt {op : AOp} {p : PV} {h' : Heap} (hd : fEval op e h n = some (p,h')) (hn : isCall op = false) (hz : h' n = none) (hk : opsK P os n (updO e d p) h' K) : opsK P (⟨d,op,none⟩ :: os) n e h K :=
 opsK_of' (.inr hd) hn (by rw [bmp_none hz]; exact hk)
theorem opsK_newAlt {op : AOp} {p : PV} {h' : Heap} {b : Bx} (hd : fEval op e h n = some (p,h')) (hn : isCall op = false) (hz : h' n = some b) (hk : opsK P os (n + 1) (updO e d p) h' K) : opsK P (⟨d,op,none⟩ :: os) n e h K :=
 opsK_of' (.inr hd) hn (by rw [bmp_some hz]; exact hk)
theorem opsK_bool {op : AOp} {b : Bool} {h' : Heap} (hd : dEval op e h n = some (.val (.bool b),h')) (hn : isCall op = false) (hz : h' n = none) (ht : b = true→opsK P os n (updO e d (.val (.bool true))) h' K) (hf : b = false→opsK P os n (updO e d (.val (.bool false))) h' K) : opsK P (⟨d,op,none⟩ :: os) n e h K := by
 cases b with
 | true => exact opsK_of hd hn hz (ht rfl)
 | false => exact opsK_of hd hn hz (hf rfl)
theorem opsK_spec {f : Operand} {args : List Operand} {g : FuncId} {caps as0 : List PV} {R : PV→Prop} (hf : ev e f = some (.fn g caps)) (ha : evs e args = some as0) (hs : Spec P g (as0 ++ caps) R) (hp : pureL (as0 ++ caps)) (hz : h n = none) (hk : ∀ r,R r→opsK P os n (updO e d r) h K) :
 opsK P (⟨d,.call f args,none⟩ :: os) n e h K := by
 unfold opsK
 exact ⟨n,e,h,subA_refl,.inl ⟨g,caps,as0,R,hf,ha,.of (.inl rfl) hp hs,fun r hr=>by show opsK P os (bmp h n) (updO e d r) h K; rw [bmp_none hz]; exact hk r hr⟩⟩
theorem opsK_eq {f : Operand} {args : List Operand} {g : FuncId} {caps as0 args' : List PV} {v : PV} (hs : Spec P g args' (· = v)) (hf : ev e f = some (.fn g caps)) (ha : evs e args = some as0) (ha' : as0 ++ caps = args') (hp : pureL args') (hz : h n = none) (hk : opsK P os n (updO e d v) h K) :
 opsK P (⟨d,.call f args,none⟩ :: os) n e h K := by
 subst ha'
 exact opsK_spec hf ha hs hp hz fun _ hr => hr ▸ hk
theorem opsK_heap {f : Operand} {args : List Operand} {g : FuncId} {caps as0 : List PV} {R : Nat→PV→Heap→Prop} (hf : ev e f = some (.fn g caps)) (ha : evs e args = some as0)
 (hs : ISpec P g n (as0 ++ caps) h R) (hk : ∀ n' r h',R n' r h'→opsK P os n' (updO e d r) h' K) : opsK P (⟨d,.call f args,none⟩ :: os) n e h K := by
 unfold opsK
 exact ⟨n,e,h,subA_refl,.inr ⟨f,args,g,caps,as0,R,rfl,hf,ha,hs,hk⟩⟩
theorem opsK_done (hk : K n e h) : opsK P [] n e h K := by unfold opsK; exact hk

theorem opsK_iaddr {α : Type} {esz : Nat} {x i : Operand} {xs : List α} {g : α→List PV} {fl : Bool} {k : IntKind} {m : Int} (hx : ev e x = some (.vec (xs.map g) fl)) (hi : ev e i = some (.val (.int k m))) (j : Nat) (hm : m = (j : Int)) (hj : j < xs.length) (hl : (g xs[j]).length = esz)
 (hz : h n = none) (hk : opsK P os n (updO e d (.cp (g xs[j]))) h K) : opsK P (⟨d,.iaddr esz x i,none⟩ :: os) n e h K := by
 subst hm
 have e1 : (xs.map g).getD (j : Int).toNat [] = g xs[j] := by simp [List.getD_eq_getElem?_getD,hj]
 refine opsK_of (p := .cp (g xs[j])) (h' := h) ?_ rfl hz hk
 simp only [dEval,hx,hi,e1,hl]
 rw [if_pos ⟨by omega,by simp; omega⟩]; simp
theorem opsK_iaddrO {esz : Nat} {x i : Operand} {id : Nat} {b : Bx} {k : IntKind} {m : Int} (hx : ev e x = some (.own id)) (hi : ev e i = some (.val (.int k m))) (hb : h id = some b) (j : Nat) (hm : m = (j : Int)) (hj : j < b.elems.length) (hl : b.esz = esz)
 (hz : h n = none) (hk : opsK P os n (updO e d (.ptr id j 0)) h K) : opsK P (⟨d,.iaddr esz x i,none⟩ :: os) n e h K := by
 subst hm
 refine opsK_of (p := .ptr id j 0) (h' := h) ?_ rfl hz hk
 simp only [dEval,hx,hi,hb,hl]
 rw [if_pos ⟨by omega,by omega⟩]; simp
theorem opsK_shr {x y : Operand} {k k' : IntKind} {a b : Int} (hx : ev e x = some (.val (.int k a))) (hy : ev e y = some (.val (.int k' b))) (hb : 0≤b) {v : Int} (hv : a.fdiv (2 ^ (min b.toNat k.bits)) = v) (hz : h n = none) (hk : opsK P os n (updO e d (.val (.int k v))) h K) : opsK P (⟨d,.bin .shr .num x y,none⟩ :: os) n e h K :=
 opsK_of (p := .val (.int k v)) (h' := h) (by simp [dEval,hx,hy,pbin,sbin,hb,hv]) rfl hz hk
theorem opsK_int {op : AOp} {k : IntKind} {a v : Int} {h' : Heap} (hd : dEval op e h n = some (.val (.int k a),h')) (hn : isCall op = false) (hz : h' n = none) (hv : a = v) (hk : opsK P os n (updO e d (.val (.int k v))) h' K) : opsK P (⟨d,op,none⟩ :: os) n e h K := by
 subst hv; exact opsK_of hd hn hz hk
theorem opsK_boolEq {op : AOp} {a v : Bool} {h' : Heap} (hd : dEval op e h n = some (.val (.bool a),h')) (hn : isCall op = false) (hz : h' n = none) (hv : a = v) (hk : opsK P os n (updO e d (.val (.bool v))) h' K) : opsK P (⟨d,op,none⟩ :: os) n e h K := by
 subst hv; exact opsK_of hd hn hz hk

theorem opsK_slc {α : Type} {esz : Nat} {x : Operand} {lo hi : Option Operand} {xs : List α} {g : α→List PV} {fl : Bool} (hx : ev e x = some (.vec (xs.map g) fl)) (a b : Nat) (hlo : bndAt e 0 lo = some (a : Int)) (hhi : bndAt e ((xs.map g).length : Nat) hi = some (b : Int)) (hab : a≤b) (hb : b≤xs.length) (hg : ∀ x,(g x).length = esz)
 (hz : h n = none) (hk : opsK P os n (updO e d (.vec (((xs.take b).drop a).map g) false)) h K) : opsK P (⟨d,.slc esz x lo hi none,none⟩ :: os) n e h K := by
 refine opsK_of (p := .vec (((xs.take b).drop a).map g) false) (h' := h) ?_ rfl hz hk
 simp only [dEval,hx,hlo,hhi]
 have hall : ∀ c∈xs.map g,c.length = esz := fun c hc=>by obtain ⟨y,_,rfl⟩ := List.mem_map.1 hc; exact hg y
 rw [if_pos ⟨⟨by omega,by omega,by simp; omega⟩,hall⟩]
 simp [List.map_drop,List.map_take]

theorem E_iaddr {α : Type} {esz : Nat} {x i : Operand} {xs : List α} {g : α→List PV} {fl : Bool} {k : IntKind} {m : Int} (hx : ev e x = some (.vec (xs.map g) fl)) (hi : ev e i = some (.val (.int k m))) (j : Nat) (hm : m = (j : Int)) (hj : j < xs.length) (hl : (g xs[j]).length = esz) :
 dEval (.iaddr esz x i) e h n = some (.cp (g xs[j]),h) := by
 subst hm
 have e1 : (xs.map g).getD (j : Int).toNat [] = g xs[j] := by simp [List.getD_eq_getElem?_getD,hj]
 simp only [dEval,hx,hi,e1,hl]
 rw [if_pos ⟨by omega,by simp; omega⟩]; simp
theorem E_iaddrO {esz : Nat} {x i : Operand} {id : Nat} {b : Bx} {k : IntKind} {m : Int} (hx : ev e x = some (.own id)) (hi : ev e i = some (.val (.int k m))) (hb : h id = some b) (j : Nat) (hm : m = (j : Int)) (hj : j < b.elems.length) (hl : b.esz = esz) :
 dEval (.iaddr esz x i) e h n = some (.ptr id j 0,h) := by
 subst hm
 simp only [dEval,hx,hi,hb,hl]
 rw [if_pos ⟨by omega,by omega⟩]; simp
theorem E_shl {x y : Operand} {k k' : IntKind} {a b : Int} (hx : ev e x = some (.val (.int k a))) (hy : ev e y = some (.val (.int k' b))) (hb : 0≤b) {v : Int} (hv : k.wrap (a * 2 ^ (min b.toNat k.bits)) = v) : dEval (.bin .shl .num x y) e h n = some (.val (.int k v),h) := by simp [dEval,hx,hy,pbin,sbin,hb,hv]
theorem E_int {op : AOp} {k : IntKind} {a v : Int} (hd : dEval op e h n = some (.val (.int k a),h)) (hv : a = v) : dEval op e h n = some (.val (.int k v),h) := by subst hv; exact hd
theorem E_boolEq {op : AOp} {a v : Bool} (hd : dEval op e h n = some (.val (.bool a),h)) (hv : a = v) : dEval op e h n = some (.val (.bool v),h) := by subst hv; exact hd
theorem E_mslice {z : List Value} {bytes : Nat} {l c : Operand} {a b : Nat} (hl : intAt (ev e l) = some (a : Int)) (hc : intAt (ev e c) = some (b : Int)) (hab : a≤b) (hb : bytes * b≤281474976710656) :
 dEval (.mslice z bytes l c) e h n = some (.own n,h.upd n ⟨z.length,List.replicate a (zpv z)⟩) := by
 simp only [dEval,hl,hc]
 rw [if_pos ⟨by omega,by omega,by rw [← Int.natCast_mul]; omega⟩]; simp
theorem E_slc {α : Type} {esz : Nat} {x : Operand} {lo hi : Option Operand} {xs : List α} {g : α→List PV} {fl : Bool} (hx : ev e x = some (.vec (xs.map g) fl)) (a b : Nat) (hlo : bndAt e 0 lo = some (a : Int)) (hhi : bndAt e ((xs.map g).length : Nat) hi = some (b : Int)) (hab : a≤b) (hb : b≤xs.length) (hg : ∀ x,(g x).length = esz) :
 dEval (.slc esz x lo hi none) e h n = some (.vec (((xs.take b).drop a).map g) false,h) := by
 simp only [dEval,hx,hlo,hhi]
 have hall : ∀ c∈xs.map g,c.length = esz := fun c hc=>by obtain ⟨y,_,rfl⟩ := List.mem_map.1 hc; exact hg y
 rw [if_pos ⟨⟨by omega,by omega,by simp; omega⟩,hall⟩]
 simp [List.map_drop,List.map_take]
theorem E_load {agg : Bool} {size : Nat} {a : Operand} {k i off : Nat} {b : Bx} {p : PV} (ha : ev e a = some (.ptr k i off)) (hb : h k = some b) (hi : i < b.elems.length) (hc : cutAt agg size off (b.elems.getD i []) = some p) : dEval (.load agg size a) e h n = some (p,h) := by
 simp only [dEval,ha,hb,if_pos hi,hc]
theorem E_store {size : Nat} {a v : Operand} {k i off : Nat} {b : Bx} {p : PV} (ha : ev e a = some (.ptr k i off)) (hv : ev e v = some p) (hb : h k = some b) (hf : p.flat = true) (hl : p.cells.length = size) (hi : i < b.elems.length) (ho : off + size≤b.esz) :
 dEval (.store size a v) e h n = some (pvu,h.upd k ⟨b.esz,b.elems.set i (setAt (b.elems.getD i []) off p.cells)⟩) := by
 subst hl
 simp only [dEval,ha,hv,hb]
 rw [if_pos (by simp [hf,hi,ho])]
theorem E_append {z : List Value} {bytes : Nat} {s x : Operand} {k : Nat} {m : List (List PV)} {fl : Bool} {b : Bx} (hs : ev e s = some (.own k)) (hx : ev e x = some (.vec m fl)) (hb : h k = some b) (hm : ∀ c∈m,c.length = z.length) (he : b.esz = z.length) (hby : (b.elems.length + m.length) * bytes≤140737488355328) :
 dEval (.append z bytes s x) e h n = some (.own n,(h.del k).upd n ⟨b.esz,b.elems ++ m⟩) := by
 simp only [dEval,hs,hx,hb]
 rw [if_pos ⟨hm,he,hby⟩]; rfl
theorem E_copy {esz : Nat} {d s : Operand} {k : Nat} {m : List (List PV)} {fl : Bool} {b : Bx} (hd : ev e d = some (.own k)) (hs : ev e s = some (.vec m fl)) (hb : h k = some b) (hm : ∀ c∈m,c.length = esz) (he : b.esz = esz) :
 dEval (.copy esz d s) e h n = some (.val (.int .i64 (min m.length b.elems.length : Nat)),h.upd k ⟨b.esz,m.take b.elems.length ++ b.elems.drop m.length⟩) := by
 simp only [dEval,hd,hs,hb]
 rw [if_pos ⟨hm,he⟩]
theorem subA_ownNil {k : Nat} (hk : e k = some (.vec [] true)) (esz : Nat) (hp : 0 < esz) : SubA n e h (n + 1) (e.upd k (.own n)) (h.upd n ⟨esz,[]⟩) := fun _ => sub_ownNil hk esz hp
theorem subA_freeze {k id : Nat} {b : Bx} (hk : e k = some (.own id)) (hb : h id = some b) (hp : pureLL b.elems) : SubA n e h n (e.upd k (.vec b.elems false)) (h.del id) := fun _ => sub_freeze hk hb hp
theorem subA_freezeBox {k id : Nat} {esz : Nat} {l : List PV} (hk : e k = some (.ptr id 0 0)) (hb : h id = some ⟨esz,[l]⟩) (hp : pureL l) : SubA n e h n (e.upd k (.cp l)) (h.del id) := fun _ => sub_freezeBox hk hb

theorem dK_of {z : Rsv} {i mask : Nat} {op : AOp} {iso : Nat} {xs : List DItem} {K : Env→Heap→Prop} {p : PV} {h' : Heap} (hd : dEval op e h (n + i) = some (p,h')) (ha : accOk z op e n i mask iso = true) (hn : isCall op = false) (hk : dK P z n xs (updO e d p) h' K) : dK P z n (⟨i,⟨d,op,none⟩,mask,iso,false⟩ :: xs) e h K := dK_det hd ha hn hk
theorem dK_ofAlt {z : Rsv} {i mask : Nat} {op : AOp} {iso : Nat} {xs : List DItem} {K : Env→Heap→Prop} {p : PV} {h' : Heap} (hd : fEval op e h (n + i) = some (p,h')) (ha : accOk z op e n i mask iso = true) (hn : isCall op = false) (hk : dK P z n xs (updO e d p) h' K) : dK P z n (⟨i,⟨d,op,none⟩,mask,iso,true⟩ :: xs) e h K := dK_det hd ha hn hk
theorem dK_bool {z : Rsv} {i mask : Nat} {op : AOp} {iso : Nat} {xs : List DItem} {K : Env→Heap→Prop} {b : Bool} {h' : Heap} (hd : dEval op e h (n + i) = some (.val (.bool b),h')) (ha : accOk z op e n i mask iso = true) (hn : isCall op = false) (ht : b = true→dK P z n xs (updO e d (.val (.bool true))) h' K) (hf : b = false→dK P z n xs (updO e d (.val (.bool false))) h' K) : dK P z n (⟨i,⟨d,op,none⟩,mask,iso,false⟩ :: xs) e h K := by
 cases b with
 | true => exact dK_of hd ha hn (ht rfl)
 | false => exact dK_of hd ha hn (hf rfl)
theorem dK_on {z : Rsv} {i mask : Nat} {op : AOp} {iso : Nat} {alt : Bool} {g : Nat × Bool} {xs : List DItem} {K : Env→Heap→Prop} (hw : wantV (some g) e = some true) (hk : dK P z n (⟨i,⟨d,op,none⟩,mask,iso,alt⟩ :: xs) e h K) : dK P z n (⟨i,⟨d,op,some g⟩,mask,iso,alt⟩ :: xs) e h K := by
 obtain ⟨s,b⟩ := g
 unfold wantV at hw
 simp only at hw
 split at hw
 · rename_i c hc
   exact dK_guard (x := ⟨i,⟨d,op,some (s,b)⟩,mask,iso,alt⟩) rfl hc (fun _ => hk) fun hne => absurd (by simpa using hw) hne
 · cases hw
 · cases hw
theorem dK_off {z : Rsv} {i mask : Nat} {op : AOp} {iso : Nat} {alt : Bool} {g : Nat × Bool} {xs : List DItem} {K : Env→Heap→Prop} (hw : ∃ c,e g.1 = some (.val (.bool c))∧c≠g.2) (hk : dK P z n xs (updO e d pvu) h K) : dK P z n (⟨i,⟨d,op,some g⟩,mask,iso,alt⟩ :: xs) e h K := by
 obtain ⟨s,b⟩ := g
 obtain ⟨c,hc,hne⟩ := hw
 exact dK_guard (x := ⟨i,⟨d,op,some (s,b)⟩,mask,iso,alt⟩) rfl hc (fun h => absurd h hne) fun _ => hk
theorem dK_eq {z : Rsv} {i mask : Nat} {f : Operand} {args : List Operand} {iso : Nat} {alt : Bool} {xs : List DItem} {K : Env→Heap→Prop} {g : FuncId} {caps as0 args' : List PV} {v : PV} (hs : Spec P g args' (· = v)) (hf : ev e f = some (.fn g caps)) (ha : evs e args = some as0) (ha' : as0 ++ caps = args') (hp : pureL args') (hk : dK P z n xs (updO e d v) h K) :
 dK P z n (⟨i,⟨d,.call f args,none⟩,mask,iso,alt⟩ :: xs) e h K := by
 subst ha'
 exact dK_call hf ha (.inl rfl) hs hp fun _ hr => hr ▸ hk
theorem dK_done {z : Rsv} {K : Env→Heap→Prop} (hk : K e h) : dK P z n [] e h K := dK_nil hk

theorem aw_condT {c : Operand} {x y : ACode} (hc : ev e c = some (.val (.bool true))) (hk : aw P C x Q n e h) : aw P C (.cond c x y) Q n e h := aw_cond hc (fun _ => hk) fun h=>by cases h
theorem aw_condF {c : Operand} {x y : ACode} (hc : ev e c = some (.val (.bool false))) (hk : aw P C y Q n e h) : aw P C (.cond c x y) Q n e h := aw_cond hc (fun h=>by cases h) fun _ => hk

theorem ret_ok {rs : List ARes} {R : PV→Prop} {r : PV} (hr : retAll rs e h = some r) (hp : r.pure) (hR : R r) : ∃ r0 r,retAll rs e h = some r0∧LoP r0 r∧r.pure∧R r := ⟨r,r,hr,.inl rfl,hp,hR⟩
theorem ret_low {rs : List ARes} {R : PV→Prop} {r : PV} (hr : retAll rs e h = some r) (hp : r.low.pure) (hR : R r.low) : ∃ r0 r,retAll rs e h = some r0∧LoP r0 r∧r.pure∧R r := ⟨r,r.low,hr,.inr rfl,hp,hR⟩
def EnvIn (e : Env) : List (Nat × PV)→Prop
 | [] => True
 | (k,p) :: r => e k = some p∧EnvIn e r
theorem EnvIn.some {L : List (Nat × PV)} (he : EnvIn e L) {k : Nat} {p : PV} (hk : envL L k = some p) : e k = some p := by
 induction L with
 | nil => cases hk
 | cons q r ih =>
   obtain ⟨k',p'⟩ := q
   obtain ⟨h1,h2⟩ := he
   simp only [envL] at hk
   by_cases hkk : k = k'
   · subst hkk; rw [Env.upd_same] at hk; cases hk; exact h1
   · rw [Env.upd_ne _ _ hkk] at hk; exact ih h2 hk
theorem sub_env {L : List (Nat × PV)} (he : EnvIn e L) : Sub C n e h n (envL L) h := by
 rintro a w ⟨F,φ,s⟩
 exact ⟨F,φ,{ s with env := fun k p hk => s.env k p (he.some hk) }⟩
theorem sub_heap {h' : Heap} (hh : ∀ i b,h' i = some b→h i = some b) : Sub C n e h n e h' := by
 rintro a w ⟨F,φ,s⟩
 exact ⟨F,φ,{ s with live := fun i b hb => s.live i b (hh i b hb),sep := fun i j bi bj li lj k hi hj => s.sep i j bi bj li lj k (hh _ _ hi) (hh _ _ hj) }⟩
theorem aw_loopE {X : Type} (I : X→Prop) (μ : X→Nat) (L : X→List (Nat × PV)) {body : ACode} (x0 : X) (h0 : I x0) (hL : EnvIn e (L x0))
 (round : ∀ x,I x→aw P C body (thenQ (fun n' e' h' => ∃ x',I x'∧μ x' < μ x∧n' = n∧h' = h∧EnvIn e' (L x')) Q) n (envL (L x)) h) : aw P C (.loop body) Q n e h :=
 aw_loop I μ (fun _ => n) (fun x => envL (L x)) (fun _ => h) x0 h0 (sub_env hL) fun x hx => aw_mono (round x hx) fun ex n e h hq => by
  cases ex with
  | normal => obtain ⟨x',h1,h2,rfl,rfl,h4⟩ := hq; exact ⟨x',h1,h2,sub_env h4⟩
  | _ => exact hq

def EnvR (e : Env) (m : Nat) : List (Nat × PV)→Prop
 | [] => True
 | (k,p) :: r => (e k = some p∧p.inn (· < m))∧EnvR e m r
def HeapR (h : Heap) (m : Nat) : List (Nat × Bx)→Prop
 | [] => True
 | (k,b) :: r => (k < m∧h k = some b∧innLL (· < m) b.elems)∧HeapR h m r
theorem EnvR.some {m : Nat} {L : List (Nat × PV)} (he : EnvR e m L) {k : Nat} {p : PV} (hk : envL L k = some p) : e k = some p∧p.inn (· < m) := by
 induction L with
 | nil => cases hk
 | cons q r ih =>
   obtain ⟨k',p'⟩ := q
   obtain ⟨h1,h2⟩ := he
   simp only [envL] at hk
   by_cases hkk : k = k'
   · subst hkk; rw [Env.upd_same] at hk; cases hk; exact h1
   · rw [Env.upd_ne _ _ hkk] at hk; exact ih h2 hk
theorem HeapR.some {m : Nat} {L : List (Nat × Bx)} (he : HeapR h m L) {k : Nat} {p : Bx} (hk : heapL L k = some p) : k < m∧h k = some p∧innLL (· < m) p.elems := by
 induction L with
 | nil => cases hk
 | cons q r ih =>
   obtain ⟨k',p'⟩ := q
   obtain ⟨h1,h2⟩ := he
   simp only [heapL] at hk
   by_cases hkk : k = k'
   · subst hkk; rw [Heap.upd_same] at hk; cases hk; exact h1
   · rw [Heap.upd_ne _ _ hkk] at hk; exact ih h2 hk
theorem sub_keep {m n' : Nat} (hdom : C.dom m) (hm : m≤n') {L : List (Nat × PV)} {HL : List (Nat × Bx)} (he : EnvR e n' L) (hh : HeapR h n' HL) : Sub C n e h n' (envL L) (heapL HL) := by
 rintro a w ⟨F,φ,s⟩
 let φ' : Locs := fun i => if i < n' then φ i else none
 have hφ : ∀ i x,i < n'→φ i = some x→φ' i = some x := fun i x hi hx=>by simp only [φ',hi,if_true]; exact hx
 refine ⟨F,φ',{ nt := s.nt,glob := s.glob,marks := s.marks,loc0 := fun i x hx => ?_,free := fun i hi => ?_,env := fun k p hp => ?_,froz := s.froz,ext := s.ext,old := s.old,os := s.os,tape := s.tape,output := s.output,size := s.size,kept := s.kept,live := fun i b hb => ?_,sep := ?_ }⟩
 · have : ¬ i < n' := by omega
   simp only [φ',this,if_false]
 · obtain ⟨h0, hr⟩ := he.some hp
   exact ⟨(s.env k p h0).1,(s.env k p h0).2.inn hφ hr⟩
 · by_cases him : i < m
   · exact hφ i x (by omega) (s.loc0 i x hx)
   · rw [hdom i (by omega)] at hx; cases hx
 · obtain ⟨hi, h0, hr⟩ := hh.some hb
   obtain ⟨loc,h1,h2,h3⟩ := s.live _ b h0
   exact ⟨loc,hφ i loc hi h1,h2.inn hφ hr,h3⟩
 · intro i j bi bj li lj k hi hj hli hlj hki hkj
   obtain ⟨hin,h0,_⟩ := hh.some hi
   obtain ⟨hjn,g0,_⟩ := hh.some hj
   have hli' : φ i = some li := by simpa only [φ',show i < n' from hin,if_true] using hli
   have hlj' : φ j = some lj := by simpa only [φ',show j < n' from hjn,if_true] using hlj
   exact s.sep _ _ bi bj li lj k h0 g0 hli' hlj' hki hkj
theorem aw_loopH {X : Type} {m : Nat} (hdom : C.dom m) (I : X→Prop) (μ : X→Nat) (N : Nat) (L : X→List (Nat × PV)) (HL : X→List (Nat × Bx)) {body : ACode} (hm : m≤N) (x0 : X) (h0 : I x0) (hL : EnvR e N (L x0)) (hH : HeapR h N (HL x0))
 (round : ∀ x,I x→aw P C body (thenQ (fun n' e' h' => ∃ x',I x'∧μ x' < μ x∧EnvR e' N (L x')∧HeapR h' N (HL x')) Q) N (envL (L x)) (heapL (HL x))) : aw P C (.loop body) Q n e h :=
 aw_loop I μ (fun _ => N) (fun x => envL (L x)) (fun x => heapL (HL x)) x0 h0 (sub_keep hdom hm hL hH) fun x hx => aw_mono (round x hx) fun ex n e h hq => by
  cases ex with
  | normal => obtain ⟨x',h1,h2,h3,h4⟩ := hq; exact ⟨x',h1,h2,sub_keep hdom hm h3 h4⟩
  | _ => exact hq

def EnvQ (ρ : Nat→Nat) (e : Env) (m : Nat) : List (Nat × PV)→Prop
 | [] => True
 | (k,p) :: r => (∃ p0,e k = some p0∧RenP ρ (· < m) p0 p)∧EnvQ ρ e m r
def HeapQ (ρ : Nat→Nat) (h : Heap) (m : Nat) : List (Nat × Bx)→Prop
 | [] => True
 | (k,b) :: r => (k < m∧∃ b0,h (ρ k) = some b0∧RenB ρ (· < m) b0 b)∧HeapQ ρ h m r
theorem EnvQ.mem {ρ : Nat→Nat} {m : Nat} : ∀ {L : List (Nat × PV)},EnvQ ρ e m L→∀ q∈L,∃ p0,e q.1 = some p0∧RenP ρ (· < m) p0 q.2
 | [],_,q,hq=>by cases hq
 | (k, p) :: r, h, q, hq => by
   rcases List.mem_cons.1 hq with rfl | hq
   · exact h.1
   · exact EnvQ.mem h.2 q hq
theorem HeapQ.mem {ρ : Nat→Nat} {m : Nat} : ∀ {L : List (Nat × Bx)},HeapQ ρ h m L→∀ q∈L,q.1 < m∧∃ b0,h (ρ q.1) = some b0∧RenB ρ (· < m) b0 q.2
 | [],_,q,hq=>by cases hq
 | (k, p) :: r, h, q, hq => by
   rcases List.mem_cons.1 hq with rfl | hq
   · exact h.1
   · exact HeapQ.mem h.2 q hq
def InjOn (ρ : Nat→Nat) (HL : List (Nat × Bx)) : Prop := ∀ q∈HL,∀ q'∈HL,ρ q.1 = ρ q'.1→q.1 = q'.1
theorem aw_loopR {X : Type} {m : Nat} (hdom : C.dom m) (I : X→Prop) (μ : X→Nat) (N : Nat) (L : X→List (Nat × PV)) (HL : X→List (Nat × Bx)) {body : ACode} (hm : m≤N) (x0 : X) (h0 : I x0) (ρ0 : Nat→Nat) (hρ0 : ∀ i,i < m→ρ0 i = i) (hi0 : InjOn ρ0 (HL x0)) (hL : EnvQ ρ0 e N (L x0)) (hH : HeapQ ρ0 h N (HL x0))
 (round : ∀ x,I x→aw P C body (thenQ (fun n' e' h' => ∃ x' ρ,I x'∧μ x' < μ x∧(∀ i,i < m→ρ i = i)∧InjOn ρ (HL x')∧EnvQ ρ e' N (L x')∧HeapQ ρ h' N (HL x')) Q) N (envL (L x)) (heapL (HL x))) : aw P C (.loop body) Q n e h :=
 aw_loop I μ (fun _ => N) (fun x => envL (L x)) (fun x => heapL (HL x)) x0 h0 (sub_ren ρ0 hL.mem hH.mem hi0 hdom hm hρ0) fun x hx => aw_mono (round x hx) fun ex n e h hq => by
  cases ex with
  | normal => obtain ⟨x',ρ,h1,h2,h3,h4,h5,h6⟩ := hq; exact ⟨x',h1,h2,sub_ren ρ h5.mem h6.mem h4 hdom hm h3⟩
  | _ => exact hq
theorem aw_keep {m n' : Nat} (hdom : C.dom m) (L : List (Nat × PV)) (HL : List (Nat × Bx)) (hm : m≤n') (he : EnvR e n' L) (hh : HeapR h n' HL) {ac : ACode} (hk : aw P C ac Q n' (envL L) (heapL HL)) : aw P C ac Q n e h := aw_sub (sub_keep hdom hm he hh) hk
theorem aw_cut {m : Nat} (hdom : C.dom m) (A : Prop) (N : Nat) (L : List (Nat × PV)) (HL : List (Nat × Bx)) {x y : ACode} (hm : m≤N) (h1 : aw P C x (thenQ (fun n e h => A∧EnvR e N L∧HeapR h N HL) Q) n e h) (h2 : A→aw P C y Q N (envL L) (heapL HL)) : aw P C (.seq x y) Q n e h :=
 aw_seq (aw_mono h1 fun ex n e h hq => by
  cases ex with
  | normal => obtain ⟨ha,he,hh⟩ := hq; exact aw_keep hdom L HL hm he hh (h2 ha)
  | _ => exact hq)

def roundsQ (P : Program) (C : Ctx) (body : ACode) (Q : Exit→Nat→Env→Heap→Prop) : Nat→Nat→Env→Heap→Prop
 | 0 => fun n e h => aw P C body (thenQ (fun _ _ _ => False) Q) n e h
 | m + 1 => fun n e h => aw P C body (thenQ (roundsQ P C body Q m) Q) n e h
theorem roundsQ_sound {body : ACode} : ∀ (m : Nat) {n : Nat} {e : Env} {h : Heap},roundsQ P C body Q m n e h→P.follows .mixedOrders = true→∀ (FN : Fence) (k : Nat),FenceOk FN k∧LoopOk FN C→∀ c,cCode P C.nt c = some body→∀ a w,St C (fun i => n≤i) e h a w→Code.roundsIn FN k P c (PostA C Q) (m + 1) a w
 | 0, n, e, h, hk, hm, FN, k, hok, c, hc, a, w, hs => by
   unfold roundsQ at hk
   unfold aw at hk
   refine wpIn_mono (hk hm FN k hok c hc a w hs) fun x a w hp => ?_
   obtain ⟨n,e,h,hQ,hS⟩ := hp
   cases x with
   | normal => exact hQ.elim
   | _ => exact ⟨n,e,h,hQ,hS⟩
 | m + 1, n, e, h, hk, hm, FN, k, hok, c, hc, a, w, hs => by
   unfold roundsQ at hk
   unfold aw at hk
   refine wpIn_mono (hk hm FN k hok c hc a w hs) fun x a w hp => ?_
   obtain ⟨n,e,h,hQ,hS⟩ := hp
   cases x with
   | normal => exact roundsQ_sound m hQ hm FN k hok c hc a w hS
   | _ => exact ⟨n,e,h,hQ,hS⟩
theorem aw_rounds {body : ACode} (m : Nat) (hk : roundsQ P C body Q m n e h) : aw P C (.loop body) Q n e h := by
 unfold aw
 intro hm FN k hok c hc a w hs
 have : ∃ c1,c = .loop c1∧cCode P C.nt c1 = some body := by
  unfold cCode at hc
  split at hc <;> first
   | (split at hc <;> first | (simp at hc; subst hc; exact ⟨_,rfl,by assumption⟩) | (simp at hc; done) | ((repeat' (split at hc)) <;> simp at hc; done))
   | (simp at hc; done)
 obtain ⟨c1,rfl,h1⟩ := this
 exact wpIn_loop_rounds (m + 1) (roundsQ_sound m hk hm FN k hok c1 h1 a w hs)
end
end Go.Proofs.YtcoehdmpjflmlaaGreatDoor

namespace Go.Proofs.YtcoehdmpjflmlaaGreatDoor
open Go.RowKit
set_option linter.unusedVariables false

structure Br (b : Bool) (p q : Prop) : Prop where
 yes : b = true→p
 no : b = false→q
theorem B {b : Bool} {p q : Prop} (h1 : b = true→p) (h2 : b = false→q) : Br b p q := ⟨h1,h2⟩
def PV.isB : PV→Bool
 | .val (.bool _) => true
 | _ => false
section
variable {P : Program} {C : Ctx} {n : Nat} {e : Env} {h : Heap} {Q : Exit→Nat→Env→Heap→Prop} {os : List AOper} {d : Option Nat} {K : Nat→Env→Heap→Prop} {z : Rsv} {KD : Env→Heap→Prop} {q1 q2 : Prop}

theorem opsK_nb {op : AOp} {p : PV} {h' : Heap} (hd : dEval op e h n = some (p,h')) (hb : p.isB = false) (hn : isCall op = false) (hz : h' n = none) (hk : opsK P os n (updO e d p) h' K) : opsK P (⟨d,op,none⟩ :: os) n e h K := opsK_of hd hn hz hk
theorem opsK_br {op : AOp} {b : Bool} {h' : Heap} (hd : dEval op e h n = some (.val (.bool b),h')) (hn : isCall op = false) (hz : h' n = none) (h1 : q1→opsK P os n (updO e d (.val (.bool true))) h' K) (h2 : q2→opsK P os n (updO e d (.val (.bool false))) h' K)   : Br b q1 q2→opsK P (⟨d,op,none⟩ :: os) n e h K :=
 fun hq => opsK_bool hd hn hz (fun hb => h1 (hq.yes hb)) fun hb => h2 (hq.no hb)
theorem opsK_lit {op : AOp} {h' : Heap} (v : Bool) (hd : dEval op e h n = some (.val (.bool v),h')) (hn : isCall op = false) (hz : h' n = none) (hk : opsK P os n (updO e d (.val (.bool v))) h' K) : opsK P (⟨d,op,none⟩ :: os) n e h K := opsK_of hd hn hz hk
theorem dK_nb {i mask : Nat} {op : AOp} {iso : Nat} {xs : List DItem} {p : PV} {h' : Heap} (hd : dEval op e h (n + i) = some (p,h')) (hb : p.isB = false) (ha : accOk z op e n i mask iso = true) (hn : isCall op = false) (hk : dK P z n xs (updO e d p) h' KD) : dK P z n (⟨i,⟨d,op,none⟩,mask,iso,false⟩ :: xs) e h KD := dK_of hd ha hn hk
theorem dK_lit {i mask : Nat} {op : AOp} {iso : Nat} {xs : List DItem} {h' : Heap} (v : Bool) (hd : dEval op e h (n + i) = some (.val (.bool v),h')) (ha : accOk z op e n i mask iso = true) (hn : isCall op = false) (hk : dK P z n xs (updO e d (.val (.bool v))) h' KD) : dK P z n (⟨i,⟨d,op,none⟩,mask,iso,false⟩ :: xs) e h KD := dK_of hd ha hn hk
theorem dK_br {i mask : Nat} {op : AOp} {iso : Nat} {xs : List DItem} {b : Bool} {h' : Heap} (hd : dEval op e h (n + i) = some (.val (.bool b),h')) (ha : accOk z op e n i mask iso = true) (hn : isCall op = false) (h1 : q1→dK P z n xs (updO e d (.val (.bool true))) h' KD) (h2 : q2→dK P z n xs (updO e d (.val (.bool false))) h' KD)   : Br b q1 q2→dK P z n (⟨i,⟨d,op,none⟩,mask,iso,false⟩ :: xs) e h KD :=
 fun hq => dK_bool hd ha hn (fun hb => h1 (hq.yes hb)) fun hb => h2 (hq.no hb)
theorem aw_br {c : Operand} {x y : ACode} {b : Bool} (hc : ev e c = some (.val (.bool b))) (h1 : q1→aw P C x Q n e h) (h2 : q2→aw P C y Q n e h)   : Br b q1 q2→aw P C (.cond c x y) Q n e h := fun hq => aw_cond hc (fun hb => h1 (hq.yes hb)) fun hb => h2 (hq.no hb)
end

theorem go {p q : Prop} (hk : q) (hr : q→p := by
 intro hq
 repeat' (first
  | (show opsK _ _ _ _ _ _; first | refine opsK_nb rfl rfl rfl rfl ?_ | refine opsK_done ?_ | refine opsK_on rfl ?_ | refine opsK_off rfl ?_ | refine opsK_lit true rfl rfl rfl ?_ | refine opsK_lit false rfl rfl rfl ?_ | (revert hq; refine' opsK_br rfl rfl rfl _ _ <;> first | intro hq | skip) | refine opsK_new rfl rfl rfl ?_)
  | (show aw _ _ _ _ _ _ _; first | refine aw_seq ?_ | refine aw_region ?_ | refine aw_draw [] ?_ | refine aw_condT rfl ?_ | refine aw_condF rfl ?_ | (revert hq; refine' aw_br rfl _ _ <;> first | intro hq | skip) | refine aw_block ?_ | refine aw_skip ?_ | refine aw_exit ?_ | refine aw_ret ?_)
  | (show dK _ _ _ _ _ _ _; first | refine dK_nb rfl rfl rfl rfl ?_ | refine dK_done ?_ | refine dK_on rfl ?_ | refine dK_off ⟨_,rfl,nofun⟩ ?_ | refine dK_lit true rfl rfl rfl ?_ | refine dK_lit false rfl rfl rfl ?_ | (revert hq; refine' dK_br rfl rfl rfl _ _ <;> first | intro hq | skip)))
 all_goals first | exact hq | skip) : p := hr hk
theorem st {p q : Prop} (hk : q) (hr : q→p := by
 intro hq
 (first
   | (show opsK _ _ _ _ _ _; first | refine opsK_nb rfl rfl rfl rfl ?_ | refine opsK_done ?_ | refine opsK_on rfl ?_ | refine opsK_off rfl ?_ | refine opsK_lit true rfl rfl rfl ?_ | refine opsK_lit false rfl rfl rfl ?_ | (revert hq; refine' opsK_br rfl rfl rfl _ _ <;> first | intro hq | skip) | refine opsK_new rfl rfl rfl ?_)
   | (show aw _ _ _ _ _ _ _; first | refine aw_seq ?_ | refine aw_region ?_ | refine aw_draw [] ?_ | refine aw_condT rfl ?_ | refine aw_condF rfl ?_ | (revert hq; refine' aw_br rfl _ _ <;> first | intro hq | skip) | refine aw_block ?_ | refine aw_skip ?_ | refine aw_exit ?_ | refine aw_ret ?_)
   | (show dK _ _ _ _ _ _ _; first | refine dK_nb rfl rfl rfl rfl ?_ | refine dK_done ?_ | refine dK_on rfl ?_ | refine dK_off ⟨_,rfl,nofun⟩ ?_ | refine dK_lit true rfl rfl rfl ?_ | refine dK_lit false rfl rfl rfl ?_ | (revert hq; refine' dK_br rfl rfl rfl _ _ <;> first | intro hq | skip)))
 all_goals first | exact hq | skip) : p := hr hk
end Go.Proofs.YtcoehdmpjflmlaaGreatDoor

namespace Go.Proofs.YtcoehdmpjflmlaaGreatDoor
open Go.RowKit Go.ChangeShapes
set_option linter.unusedVariables false
set_option linter.unusedSimpArgs false

def cellF (w : World) : Froz := fun x => match x.spot with
 | none => match w.cell? x with
   | some v => if v.oneCell' then some v else none
   | none => none
 | some _ => none
def GlobsIn (w : World) : Prop := ∀ (g j : Nat) (v : Value),(globs g)[j]? = some v→w.cell? ⟨g,j,none⟩ = some v
theorem holds_cellF {w : World} (hgl : GlobsIn w) : Holds (cellF w) w := by
 refine ⟨?_,fun g j v hv => by
  have h1 := hgl g j v hv
  have h2 := globs_one g j v hv
  simp [cellF,h1,h2]⟩
 intro x v hx
 unfold cellF at hx
 split at hx
 · rename_i hs
   split at hx
   · rename_i u hu
     split at hx
     · rename_i h1
       cases hx
       exact ⟨hs,h1,hu⟩
     · cases hx
   · cases hx
 · cases hx
theorem cellF_of {w : World} {b o : Nat} {v : Value} (hc : w.cell? ⟨b,o,none⟩ = some v) (h1 : v.oneCell' = true) : cellF w ⟨b,o,none⟩ = some v := by
 simp [cellF,hc,h1]

def Shape (P : Program) : Nat→TypeId→List PV→Prop
 | 0,_,_ => False
 | n + 1, t, ps => match P.underlying t with
   | some .bool => ∃ b,ps = [.val (.bool b)]
   | some (.int k) => ∃ m,(Lit.int k m).wf = true∧ps = [.val (.int k m)]
   | some .string => ∃ s,s.size≤maxVec∧ps = [.val (.string s)]
   | some (.pointer e) => ps = [.val (.pointer none)] ∨ ∃ l,Shape P n e l∧ps = [.cp l]
   | some (.slice e) => ∃ ll fl,ll.length≤maxVec∧(∀ l∈ll,Shape P n e l)∧ps = [.vec ll fl]
   | some (.struct fs) => ps.length = P.cellsOf t∧∀ f∈fs.toList,Shape P n f.type ((ps.drop f.offset).take (P.cellsOf f.type))
   | some (.array m e) => ps.length = P.cellsOf t∧∀ i,i < m→Shape P n e ((ps.drop (i * P.cellsOf e)).take (P.cellsOf e))
   | _ => ∃ v,ps = [.val v]

theorem mapM_some' {α β : Type} {f : α→Option β} : ∀ {l : List α} {ys : List β},l.mapM f = some ys→ys.length = l.length∧∀ i (h : i < l.length) (h' : i < ys.length),f l[i] = some ys[i]
 | [], ys, h => by
   obtain rfl : [] = ys := by simpa using h
   exact ⟨rfl,fun i hi => absurd hi (Nat.not_lt_zero _)⟩
 | a :: l, ys, h => by
   rw [List.mapM_cons] at h
   cases ha : f a with
   | none => simp [ha] at h
   | some b =>
     cases hl : l.mapM f with
     | none => simp [ha,hl] at h
     | some bs =>
       obtain rfl : b :: bs = ys := by simpa [ha,hl] using h
       obtain ⟨h1,h2⟩ := mapM_some' hl
       refine ⟨by simp [h1],fun i hi hi' => ?_⟩
       cases i with
       | zero => simpa using ha
       | succ i => simpa using h2 i (by simpa using hi) (by simpa using hi')

theorem cells?_some {w : World} {a : Addr} {n : Nat} {cs : List Value} (h : w.cells? 0 a n = some cs) : cs.length = n∧∀ j,(hj : j < cs.length)→w.cell? (a.add j) = some cs[j] := by
 unfold World.cells? at h
 rw [if_pos (Nat.zero_le _)] at h
 obtain ⟨h1,h2⟩ := mapM_some' h
 have hn : cs.length = n := by simpa using h1
 refine ⟨hn,fun j hj => ?_⟩
 have := h2 j (by simp;omega) hj
 simpa using this

structure CellsR (w : World) (cs : List Value) (ps : List PV) : Prop where
 len : cs.length = ps.length
 one : ∀ j,j < ps.length→(cs.getD j undef).oneCell' = true
 rep : ∀ j,j < ps.length→Rep (cellF w) noLoc (cs.getD j undef) (ps.getD j pvu)
 pure : pureL ps

theorem CellsR.single {w : World} {v : Value} {p : PV} (h1 : v.oneCell' = true) (hr : Rep (cellF w) noLoc v p) (hp : p.pure) : CellsR w [v] [p] :=
 ⟨rfl, fun j hj => by obtain rfl : j = 0 := by simpa using hj
                      exact h1, fun j hj => by obtain rfl : j = 0 := by simpa using hj
                                               exact hr,hp,trivial⟩
theorem CellsR.nil {w : World} : CellsR w [] [] := ⟨rfl,fun j hj => absurd hj (Nat.not_lt_zero _),fun j hj => absurd hj (Nat.not_lt_zero _),trivial⟩
theorem CellsR.append {w : World} {cs cs' : List Value} {ps ps' : List PV} (h : CellsR w cs ps) (h' : CellsR w cs' ps') : CellsR w (cs ++ cs') (ps ++ ps') := by
 refine ⟨by simp [h.len,h'.len],fun j hj => ?_,fun j hj => ?_,(innL_iff _ _).2 fun p hp => ?_⟩
 · by_cases hl : j < ps.length
   · have := h.one j hl
     simpa [List.getD_eq_getElem?_getD,List.getElem?_append,h.len,hl] using this
   · have := h'.one (j - ps.length) (by simp at hj; omega)
     simpa [List.getD_eq_getElem?_getD,List.getElem?_append,h.len,hl] using this
 · by_cases hl : j < ps.length
   · have := h.rep j hl
     simpa [List.getD_eq_getElem?_getD,List.getElem?_append,h.len,hl] using this
   · have := h'.rep (j - ps.length) (by simp at hj; omega)
     simpa [List.getD_eq_getElem?_getD,List.getElem?_append,h.len,hl] using this
 · rcases List.mem_append.1 hp with hp | hp
   · exact (innL_iff _ _).1 h.pure p hp
   · exact (innL_iff _ _).1 h'.pure p hp

def tile (P : Program) (off : Nat) (total : Nat) : List Field→Bool
 | [] => off == total
 | f :: r => f.offset == off && tile P (off + P.cellsOf f.type) total r
def tilesT (P : Program) (G : List TypeId) (t : TypeId) : Bool := match P.underlying t with
 | some (.struct fs) => tile P 0 (P.cellsOf t) fs.toList && fs.toList.all fun f => G.contains f.type
 | some (.array m e) => P.cellsOf t == m * P.cellsOf e && G.contains e
 | some (.slice e) => decide (0 < P.bytesOf e) && decide (0 < P.cellsOf e) && G.contains e
 | some (.pointer e) => decide (0 < P.cellsOf e) && G.contains e
 | _ => true
def tilesB (P : Program) (G : List TypeId) : Bool := G.all (tilesT P G)
theorem tilesT_of {P : Program} {G : List TypeId} (h : tilesB P G = true) {t : TypeId} (ht : G.contains t = true) : tilesT P G t = true := List.all_eq_true.1 h t (by simpa using ht)
def partsG (P : Program) (ts : List TypeId) : List TypeId := ts.flatMap P.book

theorem struct_cells {P : Program} {w : World} {S : TypeId→List PV→Prop} {cs : List Value} : ∀ {fs : List Field} {off total : Nat},tile P off total fs = true→cs.length = total →
 (∀ f∈fs,∃ ps,S f.type ps∧CellsR w ((cs.drop f.offset).take (P.cellsOf f.type)) ps)→off≤total∧∃ ps,CellsR w (cs.drop off) ps∧∀ f∈fs,off≤f.offset∧S f.type ((ps.drop (f.offset - off)).take (P.cellsOf f.type))
 | [], off, total, ht, hl, _ => by
   obtain rfl : off = total := by simpa [tile] using ht
   refine ⟨Nat.le_refl _,[],?_,fun f hf=>by cases hf⟩
   rw [List.drop_eq_nil_of_le (by omega)]
   exact .nil
 | f :: r, off, total, ht, hl, hf => by
   simp only [tile,Bool.and_eq_true,beq_iff_eq] at ht
   obtain ⟨rfl,ht⟩ := ht
   obtain ⟨hle,ps2,hc2,hs2⟩ := struct_cells ht hl fun g hg => hf g (by simp [hg])
   obtain ⟨ps1,hs1,hc1⟩ := hf f (by simp)
   have hl1 : ps1.length = P.cellsOf f.type := by rw [← hc1.len]; simp; omega
   refine ⟨by omega,ps1 ++ ps2,?_,fun g hg => ?_⟩
   · have := hc1.append hc2
     rw [← List.drop_drop,List.take_append_drop] at this
     exact this
   · rcases List.mem_cons.1 hg with rfl | hg
     · refine ⟨Nat.le_refl _, ?_⟩
       rw [Nat.sub_self,List.drop_zero,← hl1,List.take_left]
       exact hs1
     · obtain ⟨h1, h2⟩ := hs2 g hg
       refine ⟨by omega,?_⟩
       have e : g.offset - f.offset = ps1.length + (g.offset - (f.offset + P.cellsOf f.type)) := by omega
       rw [e,← List.drop_drop,List.drop_left]
       exact h2

theorem array_cells {w : World} {S : List PV→Prop} {cs : List Value} {sz : Nat} : ∀ {m : Nat},cs.length = m * sz→(∀ i,i < m→∃ ps,S ps∧CellsR w ((cs.drop (i * sz)).take sz) ps)→∃ ps,CellsR w cs ps∧∀ i,i < m→S ((ps.drop (i * sz)).take sz)
 | 0, hl, _ => by
   obtain rfl : cs = [] := List.eq_nil_of_length_eq_zero (by simpa using hl)
   exact ⟨[],.nil,fun i hi => absurd hi (Nat.not_lt_zero _)⟩
 | m + 1, hl, hf => by
   have hlm : (cs.take (m * sz)).length = m * sz := by rw [List.length_take,hl]; exact Nat.min_eq_left (Nat.mul_le_mul_right _ (by omega))
   obtain ⟨ps1,hc1,hs1⟩ := array_cells (cs := cs.take (m * sz)) hlm fun i hi => by
    obtain ⟨ps,h1,h2⟩ := hf i (by omega)
    refine ⟨ps,h1,?_⟩
    rw [List.drop_take,List.take_take,Nat.min_eq_left (by
     have : (i + 1) * sz≤m * sz := Nat.mul_le_mul_right _ hi
     rw [Nat.add_mul] at this;omega)]
    exact h2
   obtain ⟨ps2,hs2,hc2⟩ := hf m (by omega)
   have hl1 : ps1.length = m * sz := by rw [← hc1.len,hlm]
   have hd : (cs.drop (m * sz)).take sz = cs.drop (m * sz) := List.take_of_length_le (by rw [List.length_drop,hl,Nat.add_mul];omega)
   rw [hd] at hc2
   have hl2 : ps2.length = sz := by rw [← hc2.len,List.length_drop,hl,Nat.add_mul]; omega
   refine ⟨ps1 ++ ps2,by have := hc1.append hc2; rwa [List.take_append_drop] at this,fun i hi => ?_⟩
   by_cases him : i < m
   · have hle : i * sz + sz ≤ ps1.length := by
      have : (i + 1) * sz≤m * sz := Nat.mul_le_mul_right _ him
      rw [Nat.add_mul] at this; omega
     rw [List.drop_append_of_le_length (by omega),List.take_append_of_le_length (by rw [List.length_drop];omega)]
     exact hs1 i him
   · obtain rfl : i = m := by omega
     rw [← hl1,List.drop_left,List.take_of_length_le (by omega)]
     exact hs2

theorem weightsAll_mem {H : Type} {P : Program} {e : TypeId} : ∀ {ds : List (DataW H)} {d : DataW H},d∈ds→∀ x∈d.weights P e,x∈DataW.weightsAll P e ds
 | [],_,h,_,_=>by cases h
 | a :: r, d, h, x, hx => by
   rw [DataW.weightsAll,List.mem_append]
   rcases List.mem_cons.1 h with rfl | h
   · exact .inl hx
   · exact .inr (weightsAll_mem h x hx)
theorem weightsEach_mem {H : Type} {P : Program} : ∀ {ts : List TypeId} {ds : List (DataW H)} {i : Nat} {t : TypeId} {d : DataW H},ts[i]? = some t→ds[i]? = some d→∀ x∈d.weights P t,x∈DataW.weightsEach P ts ds
 | [],_,i,t,d,h,_,_,_=>by simp at h
 | a :: ts,[],i,t,d,_,h,_,_=>by simp at h
 | a :: ts, b :: ds, 0, t, d, h, h', x, hx => by
   obtain rfl : a = t := by simpa using h
   obtain rfl : b = d := by simpa using h'
   rw [DataW.weightsEach,List.mem_append]
   exact .inl hx
 | a :: ts, b :: ds, i + 1, t, d, h, h', x, hx => by
   rw [DataW.weightsEach,List.mem_append]
   exact .inr (weightsEach_mem (i := i) (by simpa using h) (by simpa using h') x hx)

section
variable {H : Type} {enc : TypeId × Value→H} {P : Program} {w : World} {sp : Nat→Bool}

theorem row_cells {a : Addr} {n : Nat} {cs : List Value} {ps : List PV} (hc : w.cells? 0 a n = some cs) (hs : a.spot = none) (h : CellsR w cs ps) : ps.length = n∧∀ j,j < ps.length→cellF w ⟨a.block,a.off + j,none⟩ = some (cs.getD j undef) := by
 obtain ⟨h1,h2⟩ := cells?_some hc
 refine ⟨by rw [← h.len,h1],fun j hj => ?_⟩
 have hj' : j < cs.length := by rw [h.len]; exact hj
 have := h2 j hj'
 rw [add_none _ _ hs] at this
 have e : cs.getD j undef = cs[j] := by simp [List.getD_eq_getElem?_getD,hj']
 rw [e]
 exact cellF_of this (by rw [← e]; exact h.one j hj)

theorem row_spot {a : Addr} {n : Nat} {cs : List Value} (hc : w.cells? 0 a n = some cs) (hn : 0 < n) : a.spot = none := by
 obtain ⟨h1,h2⟩ := cells?_some hc
 have := h2 0 (by omega)
 have e : a.add 0 = a := rfl
 rw [e] at this
 cases hs : a.spot with
 | none => rfl
 | some k =>
   unfold World.cell? at this
   rw [hs] at this
   split at this <;> simp at this

theorem exists_list {α : Type} (z : α) {Q : Nat→α→Prop} : ∀ {n : Nat},(∀ i,i < n→∃ x,Q i x)→∃ l : List α,l.length = n∧∀ i,i < n→Q i (l.getD i z)
 | 0,_ => ⟨[],rfl,fun i hi => absurd hi (Nat.not_lt_zero _)⟩
 | n + 1, h => by
   obtain ⟨l,hl,hq⟩ := exists_list z (n := n) fun i hi => h i (by omega)
   obtain ⟨x,hx⟩ := h n (by omega)
   refine ⟨l ++ [x],by simp [hl],fun i hi => ?_⟩
   by_cases hin : i < n
   · have := hq i hin
     simpa [List.getD_eq_getElem?_getD,List.getElem?_append,hl,hin] using this
   · obtain rfl : i = n := by omega
     simpa [List.getD_eq_getElem?_getD,List.getElem?_append,hl] using hx

theorem shape_of_trod {G : List TypeId} (hT : tilesB P G = true) : ∀ {fuel : Nat} {t : TypeId} {cs : List Value} {d : DataW H} {pl : List MemPlace},G.contains t = true→DataW.trod enc P w 0 sp true fuel t cs = some (d,pl)→(∀ x∈d.weights P t,x≤reachBytes)→∃ ps,Shape P fuel t ps∧CellsR w cs ps
 | 0,_,_,_,_,_,h,_=>by simp [DataW.trod] at h
 | fuel + 1, t, cs, d, pl, ht, h, hw => by
   have hTt := tilesT_of hT ht
   unfold tilesT at hTt
   have other : ∀ v : Value,v.oneCell' = true→cs = [v]→(match P.underlying t with
    | some .bool | some (.int _) | some .string | some (.pointer _) | some (.slice _) | some (.struct _) | some (.array _ _) => False
    | _ => True)→∃ ps,Shape P (fuel + 1) t ps∧CellsR w cs ps := by
    intro v h1 hcs hu
    refine ⟨[.val v],?_,hcs ▸ .single h1 (.val v) trivial⟩
    unfold Shape
    split at hu <;> first | exact hu.elim | skip
    first | exact ⟨v,rfl⟩ | (split <;> first | exact ⟨v,rfl⟩ | simp_all)
   unfold DataW.trod at h
   split at h
   · rename_i b hu
     exact ⟨[.val (.bool b)],by simp [Shape,hu],.single rfl (.val _) trivial⟩
   · rename_i k k' m hu
     split at h
     · rename_i hk
       obtain ⟨rfl,hwf⟩ := hk
       exact ⟨[.val (.int k' m)],by simp [Shape,hu,hwf],.single rfl (.val _) trivial⟩
     · cases h
   · rename_i k k' m hu
     exact other _ rfl rfl (by rw [hu]; trivial)
   · rename_i str hu
     split at h
     · cases h
       refine ⟨[.val (.string str)],?_,.single rfl (.val _) trivial⟩
       have := hw str.data.toList.length (by simp [DataW.weights])
       have hs : str.size≤maxVec := by
        have e : str.data.toList.length = str.size := Array.length_toList
        rw [e] at this
        simp only [reachBytes] at this
        simp only [maxVec]
        omega
       simp [Shape,hu,hs]
     · cases h
   · rename_i e hu
     exact ⟨[.val (.pointer none)],by simp [Shape,hu],.single rfl (.val _) trivial⟩
   · rename_i e a hu
     rw [hu] at hTt
     simp only [Bool.and_eq_true,decide_eq_true_eq] at hTt
     cases hc : w.cells? 0 a (P.cellsOf e) with
     | none => simp [hc] at h
     | some cs' =>
       cases hr : DataW.trod enc P w 0 sp true fuel e cs' with
       | none => simp [hc,hr] at h
       | some r =>
         obtain ⟨d',pl'⟩ := r
         have hd : d = .ptr d' := by simp [hc,hr] at h; exact h.1.symm
         subst hd
         obtain ⟨l,hs,hcl⟩ := shape_of_trod hT hTt.2 hr (fun x hx => hw x (by simp only [DataW.weights,hu]; exact hx))
         have hspot := row_spot hc hTt.1
         obtain ⟨hl,hF⟩ := row_cells hc hspot hcl
         refine ⟨[.cp l],by simp only [Shape,hu]; exact .inr ⟨l,hs,rfl⟩,.single rfl ?_ hcl.pure⟩
         exact .cp a l (fun j => cs'.getD j undef) hspot hF hcl.rep
   · rename_i e hu
     exact ⟨[.vec [] true],by simp only [Shape,hu]; exact ⟨[],true,by simp,by simp,rfl⟩,.single rfl (.vecnil true) trivial⟩
   · rename_i e a len cap hu
     rw [hu] at hTt
     simp only [Bool.and_eq_true,decide_eq_true_eq] at hTt
     obtain ⟨⟨hby,hsz⟩,het⟩ := hTt
     simp only at h
     split at h
     case isFalse => cases h
     rename_i hcond
     cases hm : (List.range len).mapM (fun i => (w.cells? 0 (a.add (i * P.cellsOf e)) (P.cellsOf e)).bind (DataW.trod enc P w 0 sp true fuel e)) with
     | none => simp [hm] at h
     | some elems =>
       obtain ⟨hel,hget⟩ := mapM_some' hm
       have hd : ∃ rest : List (DataW H × List MemPlace),d = .slice (elems.map (·.1)) (rest.map (·.1)) := by
        rw [hm] at h
        simp only [Option.bind_some,Option.map_eq_some_iff] at h
        obtain ⟨rest,_,h2⟩ := h
        exact ⟨rest,by cases h2; rfl⟩
       obtain ⟨rest,rfl⟩ := hd
       have hlen : elems.length = len := by simpa using hel
       have hbound : len≤maxVec := by
        have := hw ((elems.length + rest.length) * P.bytesOf e) (by simp [DataW.weights,hu])
        have h3 : elems.length + rest.length≤(elems.length + rest.length) * P.bytesOf e := Nat.le_mul_of_pos_right _ hby
        simp only [reachBytes] at this
        simp only [maxVec]
        omega
       have each : ∀ i,i < len→∃ cs' d' pl',w.cells? 0 (a.add (i * P.cellsOf e)) (P.cellsOf e) = some cs'∧DataW.trod enc P w 0 sp true fuel e cs' = some (d',pl')∧d'∈elems.map (·.1) := fun i hi => by
        have := hget i (by simpa using hi) (by omega)
        simp only [List.getElem_range,Option.bind_eq_some_iff] at this
        obtain ⟨cs',h1,h2⟩ := this
        exact ⟨cs',_,_,h1,h2,List.mem_map.2 ⟨elems[i],List.getElem_mem _,rfl⟩⟩
       have hspot : 0 < len→a.spot = none := fun h0 => by
        obtain ⟨cs',d',pl',h1,_⟩ := each 0 h0
        rw [Nat.zero_mul] at h1
        exact row_spot h1 hsz
       obtain ⟨ll,hll,hq⟩ := exists_list (α := List PV) [] (n := len) (Q := fun i l => Shape P fuel e l∧l.length = P.cellsOf e∧pureL l∧∀ j,j < P.cellsOf e→∃ v,cellF w ⟨a.block,a.off + (i * P.cellsOf e + j),none⟩ = some v∧Rep (cellF w) noLoc v (l.getD j pvu)) fun i hi => by
        obtain ⟨cs',d',pl',h1,h2,h3⟩ := each i hi
        obtain ⟨l,hs,hcl⟩ := shape_of_trod hT het h2 (fun x hx => hw x (by simp only [DataW.weights,hu]; exact List.mem_cons_of_mem _ (List.mem_append.2 (.inl (weightsAll_mem h3 x hx)))))
        rw [add_none _ _ (hspot (by omega))] at h1
        obtain ⟨hl,hF⟩ := row_cells h1 rfl hcl
        refine ⟨l,hs,hl,hcl.pure,fun j hj => ⟨_,?_,hcl.rep j (by omega)⟩⟩
        have := hF j (by omega)
        simp only at this
        rw [Nat.add_assoc] at this
        exact this
       have hmem : ∀ l∈ll,∃ i,i < len∧ll.getD i [] = l := fun l hl => by
        obtain ⟨i,hi,rfl⟩ := List.getElem_of_mem hl
        exact ⟨i,by omega,by simp [List.getD_eq_getElem?_getD,hi]⟩
       refine ⟨[.vec ll false],?_,.single rfl ?_ ((innLL_iff _ _).2 fun l hl => ?_)⟩
       · simp only [Shape, hu]
         exact ⟨ll,false,by omega,fun l hl=>by obtain ⟨i,hi,rfl⟩ := hmem l hl; exact (hq i hi).1,rfl⟩
       · rw [← hll]
         refine .vec a cap (P.cellsOf e) ll false (fun i j => (cellF w ⟨a.block,a.off + (i * P.cellsOf e + j),none⟩).getD undef) (fun hne => hspot (by rw [← hll]; exact List.length_pos_iff.2 hne)) (by omega) (by simp) (by omega) (fun i hi => (hq i (by omega)).2.1) (fun i j hi hj => ?_) (fun i j hi hj => ?_)
         · obtain ⟨v, h1, _⟩ := (hq i (by omega)).2.2.2 j hj
           rw [h1]; rfl
         · obtain ⟨v, h1, h2⟩ := (hq i (by omega)).2.2.2 j hj
           rw [h1]; exact h2
       · obtain ⟨i, hi, rfl⟩ := hmem l hl
         exact (hq i hi).2.2.1
   · rename_i cs _ _ fs hu
     rw [hu] at hTt
     simp only [Bool.and_eq_true,List.all_eq_true,decide_eq_true_eq] at hTt
     obtain ⟨htile,hft⟩ := hTt
     split at h
     case isFalse => cases h
     rename_i hlen
     cases hm : fs.toList.mapM (fun f => DataW.trod enc P w 0 sp true fuel f.type ((cs.drop f.offset).take (P.cellsOf f.type))) with
     | none => simp [hm] at h
     | some xs =>
       obtain ⟨hxl,hget⟩ := mapM_some' hm
       obtain rfl : d = .agg (xs.map (·.1)) := by simp [hm] at h; exact h.1.symm
       obtain ⟨_,ps,hc,hs⟩ := struct_cells (P := P) (S := fun t ps => Shape P fuel t ps) htile hlen fun f hf => by
        obtain ⟨i,hi,rfl⟩ := List.getElem_of_mem hf
        have h2 := hget i hi (by omega)
        refine shape_of_trod hT (hft _ hf) (d := (xs[i]'(by omega)).1) (pl := (xs[i]'(by omega)).2) h2 fun x hx => hw x ?_
        simp only [DataW.weights,hu]
        exact weightsEach_mem (i := i) (t := fs.toList[i].type) (d := (xs[i]'(by omega)).1) (by rw [List.getElem?_map,List.getElem?_eq_getElem hi]; rfl) (by rw [List.getElem?_map,List.getElem?_eq_getElem (by omega)]; rfl) x hx
       rw [List.drop_zero] at hc
       refine ⟨ps,?_,hc⟩
       simp only [Shape,hu]
       exact ⟨by rw [← hc.len]; exact hlen,fun f hf=>by have := (hs f hf).2; rwa [Nat.sub_zero] at this⟩
   · rename_i cs _ _ m e hu
     rw [hu] at hTt
     simp only [Bool.and_eq_true,beq_iff_eq,decide_eq_true_eq] at hTt
     obtain ⟨htile,het⟩ := hTt
     split at h
     case isFalse => cases h
     rename_i hlen
     cases hm : (List.range m).mapM (fun i => DataW.trod enc P w 0 sp true fuel e ((cs.drop (i * P.cellsOf e)).take (P.cellsOf e))) with
     | none => simp [hm] at h
     | some xs =>
       obtain ⟨hxl,hget⟩ := mapM_some' hm
       obtain rfl : d = .agg (xs.map (·.1)) := by simp [hm] at h; exact h.1.symm
       have hxm : xs.length = m := by simpa using hxl
       obtain ⟨ps,hc,hs⟩ := array_cells (S := Shape P fuel e) (sz := P.cellsOf e) (m := m) (by rw [hlen,htile]) fun i hi => by
        have h2 := hget i (by simpa using hi) (by omega)
        simp only [List.getElem_range] at h2
        refine shape_of_trod hT het (d := (xs[i]'(by omega)).1) (pl := (xs[i]'(by omega)).2) h2 fun x hx => hw x ?_
        simp only [DataW.weights,hu]
        exact weightsAll_mem (List.mem_map.2 ⟨xs[i]'(by omega),List.getElem_mem _,rfl⟩) x hx
       refine ⟨ps,?_,hc⟩
       simp only [Shape,hu]
       exact ⟨by rw [← hc.len]; exact hlen,hs⟩
   all_goals first
    | (cases h; done)
    | (rename_i hu; exact other _ rfl rfl (by rw [hu]; trivial))
end
end Go.Proofs.YtcoehdmpjflmlaaGreatDoor

namespace Go.Proofs.YtcoehdmpjflmlaaGreatDoor
open Go.RowKit Go.ChangeShapes Go.WideShapes
set_option linter.unusedVariables false

def ShapeV (P : Program) (t : TypeId) (p : PV) : Prop := ∃ n,match P.underlying t with
 | some (.struct _) | some (.array _ _) => ∃ ps,p = .agg ps∧Shape P n t ps
 | _ => Shape P n t [p]
def ShapeVs (P : Program) : List TypeId→List PV→Prop
 | [],[] => True
 | t :: ts,p :: ps => ShapeV P t p∧ShapeVs P ts ps
 | _,_ => False

section
variable {H : Type} {enc : TypeId × Value→H} {P : Program} {w : World}

theorem cellsR_single {v : Value} {ps : List PV} (h : CellsR w [v] ps) : ∃ p,ps = [p]∧Rep (cellF w) noLoc v p∧p.pure := by
 have hl := h.len
 obtain ⟨p,rfl⟩ : ∃ p,ps = [p] := by
  cases ps with
  | nil => simp at hl
  | cons p r => cases r with
    | nil => exact ⟨p,rfl⟩
    | cons _ _ => simp at hl
 exact ⟨p,rfl,by simpa using h.rep 0 (by simp),h.pure.1⟩

theorem okWide_one {t : TypeId} {v : Value} {base : Nat} (hu : match P.underlying t with | some (.struct _) | some (.array _ _) => False | _ => True) (h : Value.okWide P w .any base t v) : v.cells.toList = [v] := by
 cases v with
 | agg cs =>
   exfalso
   unfold Value.okWide at h
   split at h
   · rename_i hu'; rw [hu'] at hu; exact hu
   · rename_i hu'; rw [hu'] at hu; exact hu
   · unfold Cell.okWide at h
     split at h <;> first | (rename_i hv; cases hv; done) | skip
     all_goals first | (cases ‹Value.agg cs = _›; done) | (unfold Cell.ok at h; split at h <;> first | exact h | (cases ‹Value.agg cs = _›; done) | simp_all)
 | _ => rfl

theorem value_rep {G : List TypeId} (hT : tilesB P G = true) {t : TypeId} {v : Value} {d : DataW H} {pl : List MemPlace} {base : Nat} (ht : G.contains t = true) (hok : Value.okWide P w .any base t v) (h : DataW.Trod enc P w 0 (fun _ => true) true t v d pl) (hw : ∀ x∈d.weights P t,x≤reachBytes) :
 ∃ p,ShapeV P t p∧Rep (cellF w) noLoc v p∧p.pure := by
 obtain ⟨fuel,h⟩ := h
 obtain ⟨ps,hs,hc⟩ := shape_of_trod hT ht h hw
 cases hu : P.underlying t with
 | none =>
   rw [okWide_one (by rw [hu]; trivial) hok] at hc
   obtain ⟨p,rfl,h1,h2⟩ := cellsR_single hc
   exact ⟨p,⟨fuel,by rw [hu]; exact hs⟩,h1,h2⟩
 | some dsc =>
   have agg : (∃ cs,v = .agg cs)→∃ p,(∃ ps,p = .agg ps∧Shape P fuel t ps)∧Rep (cellF w) noLoc v p∧p.pure := by
    rintro ⟨cs,rfl⟩
    have e : ∀ j,cs.getD j undef = cs.toList.getD j undef := fun j=>by simp [Array.getD_eq_getD_getElem?,List.getD_eq_getElem?_getD]
    refine ⟨.agg ps,⟨ps,rfl,hs⟩,.agg cs ps (by rw [← hc.len]; simp [Value.cells]) (fun i hi => ?_) (fun i hi => ?_),hc.pure⟩
    · rw [e]; exact hc.one i hi
    · rw [e]; exact hc.rep i hi
   have one : (match P.underlying t with | some (.struct _) | some (.array _ _) => False | _ => True)→∃ p,Shape P fuel t [p]∧Rep (cellF w) noLoc v p∧p.pure := by
    intro hu'
    rw [okWide_one hu' hok] at hc
    obtain ⟨p,rfl,h1,h2⟩ := cellsR_single hc
    exact ⟨p,hs,h1,h2⟩
   have isAgg : (∃ fs,dsc = .struct fs) ∨ (∃ m e,dsc = .array m e)→∃ cs,v = .agg cs := by
    intro hd
    unfold Value.okWide at hok
    rw [hu] at hok
    rcases hd with ⟨fs,rfl⟩ | ⟨m,e,rfl⟩
    · obtain ⟨cs,h1,_⟩ := hok; exact ⟨cs,h1⟩
    · obtain ⟨cs,h1,_⟩ := hok; exact ⟨cs,h1⟩
   cases dsc with
   | struct fs =>
     obtain ⟨p,h1,h2⟩ := agg (isAgg (.inl ⟨fs,rfl⟩))
     exact ⟨p,⟨fuel,by rw [hu]; exact h1⟩,h2⟩
   | array m e =>
     obtain ⟨p,h1,h2⟩ := agg (isAgg (.inr ⟨m,e,rfl⟩))
     exact ⟨p,⟨fuel,by rw [hu]; exact h1⟩,h2⟩
   | _ =>
     obtain ⟨p,h1,h2⟩ := one (by rw [hu]; trivial)
     exact ⟨p,⟨fuel,by rw [hu]; exact h1⟩,h2⟩

theorem values_rep {G : List TypeId} (hT : tilesB P G = true) : ∀ {ts : List TypeId} {vs : List Value} {ds : List (DataW H)} {pl : List MemPlace},(∀ t∈ts,G.contains t = true)→(∀ (j : Nat) t v,ts[j]? = some t→vs[j]? = some v→∃ base,Value.okWide P w .any base t v) →
 DataW.TrodAll enc P w 0 (fun _ => true) true ts vs ds pl→(∀ x∈DataW.weightsEach P ts ds,x≤reachBytes)→∃ ps,ShapeVs P ts ps∧vs.length = ps.length∧(∀ i,i < ps.length→Rep (cellF w) noLoc (vs.getD i undef) (ps.getD i pvu))∧pureL ps
 | [], vs, ds, pl, _, _, h, _ => by
   obtain ⟨rfl,rfl,rfl⟩ := trodAll_nil h
   exact ⟨[],trivial,rfl,fun i hi => absurd hi (Nat.not_lt_zero _),trivial⟩
 | t :: ts, vs, ds, pl, hlt, hok, h, hw => by
   obtain ⟨v,vs',d,ds',p,q,rfl,rfl,rfl,h1,h2⟩ := trodAll_cons h
   obtain ⟨base,hv⟩ := hok 0 t v rfl rfl
   obtain ⟨x,hs,hr,hp⟩ := value_rep hT (hlt t (by simp)) hv h1 fun x hx => hw x (by rw [DataW.weightsEach]; exact List.mem_append.2 (.inl hx))
   obtain ⟨ps,hs',hl,hr',hp'⟩ := values_rep hT (fun t ht => hlt t (by simp [ht])) (fun j t v hj hv => hok (j + 1) t v (by simpa using hj) (by simpa using hv)) h2 fun x hx => hw x (by rw [DataW.weightsEach]; exact List.mem_append.2 (.inr hx))
   refine ⟨x :: ps,⟨hs,hs'⟩,by simp [hl],fun i hi => ?_,hp,hp'⟩
   cases i with
   | zero => simpa using hr
   | succ i => simpa using hr' i (by simpa using hi)

theorem trodAll_stays (hl : laidOutB P = true) {W W' : World} (hb : Below W.heap.size W W') {sp' : Nat→Bool} : ∀ {ts : List TypeId} {vs : List Value} {ds : List (DataW H)} {pl : List MemPlace},(∀ t∈ts,P.readableRec t = true∧t < P.types.size)→DataW.TrodAll enc P W 0 (fun _ => true) true ts vs ds pl →
 (∀ x∈pl,x.block < W.heap.size)→(∀ x∈pl,sp' x.block = true)→DataW.TrodAll enc P W' 0 sp' true ts vs ds pl
 | [], vs, ds, pl, _, h, _, _ => by
   obtain ⟨rfl,rfl,rfl⟩ := trodAll_nil h
   exact rfl
 | t :: ts, vs, ds, pl, hr, h, hlt, hsp => by
   obtain ⟨v,vs',d,ds',p,q,rfl,rfl,rfl,h1,h2⟩ := trodAll_cons h
   obtain ⟨hr1,hr2⟩ := hr t (by simp)
   exact ⟨p,q,WideElems.Trod_stays hl hr1 hr2 h1 (fun x hx => hb.same (hlt x (List.mem_append.2 (.inl hx)))) (fun x hx => hsp x (List.mem_append.2 (.inl hx))),
    trodAll_stays hl hb (fun t ht => hr t (by simp [ht])) h2 (fun x hx => hlt x (List.mem_append.2 (.inr hx))) (fun x hx => hsp x (List.mem_append.2 (.inr hx))),rfl⟩
end

theorem law_contract {H : Type} {enc : TypeId × Value→H} {P : Program} {f : FuncId} {fn : Func} {s : ChangeSpec} {apart fresh handsOn again : Bool} {tb : TypeId} {G : List TypeId} (hT : tilesB P G = true) (hG : ∀ t∈fn.params.toList,G.contains t = true) (hl : laidOutB P = true) (hpar : ∀ t∈fn.params.toList,P.readableRec t = true∧t < P.types.size) (hres : fn.resultTypes = #[tb]) (htb : P.underlying tb = some .bool)
 (hvars : s.vars = []) (hs : ∀ ds : List (DataW H),ds.length = fn.params.size→(s.fn H ds).results = [.lit (.bool true)]∧(s.fn H ds).args = ds∧(s.fn H ds).vars = []) (hspec : ∀ ps,ShapeVs P fn.params.toList ps→pureL ps→Spec P f ps (· = .val (.bool true)))
 (W : World) (hgl : GlobsIn W) (base : Nat) (args : Array Value) (ds gs : List (DataW H)) (before : List MemPlace) (hval : ∀ (j : Nat) t v,fn.params[j]? = some t→args[j]? = some v→Value.okWide P W .any base t v) (hW : DataW.Whole enc P fn.params.toList s.vars apart W args.toList ds gs before)
 (hwt : (DataW.weightsEach P (fn.params.toList ++ s.plain.varTypes P) (ds ++ gs)).all (· ≤ reachBytes) = true) :
 Calls P f args W fun e W' => ∃ v,e = .returned v∧s.post enc P fn apart fresh handsOn again W args v W' := by
 have hW' := hW
 obtain ⟨p,q,hA,hV,rfl,hfz,hnd⟩ := hW
 rw [hvars] at hV
 obtain ⟨rfl,rfl⟩ := trodVars_none hV
 rw [List.append_nil] at hwt
 have hlen : ds.length = fn.params.toList.length := by
  have : ∀ {ts : List TypeId} {vs : List Value} {ds : List (DataW H)} {pl : List MemPlace},DataW.TrodAll enc P W 0 (fun _ => true) true ts vs ds pl→ds.length = ts.length := by
   intro ts
   induction ts with
   | nil => intro vs ds pl h; obtain ⟨_,rfl,_⟩ := trodAll_nil h; rfl
   | cons t ts ih => intro vs ds pl h; obtain ⟨v,vs',d,ds',p,q,_,rfl,_,_,h2⟩ := trodAll_cons h; simp [ih h2]
  exact this hA
 have hvt : s.plain.varTypes P = [] := by
  simp [ChangeSpec.plain,DataSpec.varTypes,hvars]
 rw [hvt,List.append_nil] at hwt
 obtain ⟨ps,hsh,hpl,hrep,hpure⟩ := values_rep hT hG (fun j t v hj hv => ⟨base,hval j t v (by simpa using hj) (by simpa using hv)⟩) hA (fun x hx=>by simpa using List.all_eq_true.1 hwt x hx)
 have e : ∀ j,args.getD j undef = args.toList.getD j undef := fun j=>by simp [Array.getD_eq_getD_getElem?,List.getD_eq_getElem?_getD]
 refine ((hspec ps hsh hpure).2 (cellF W) W args (holds_cellF hgl) ⟨by simpa using hpl,fun i hi=>by rw [e]; exact hrep i hi⟩).mono ?_
 rintro en W' ⟨v,r,F',rfl,rfl,hvr,hbel,_⟩
 obtain rfl := hvr.val_inv
 obtain ⟨hs1,hs2,hs3⟩ := hs ds (by simpa using hlen)
 have hlt := hW'.lt
 simp only [List.append_nil] at hlt hW' ⊢
 have hstay : ∀ sp' : Nat→Bool,(∀ x∈p,sp' x.block = true)→DataW.TrodAll enc P W' 0 sp' true fn.params.toList args.toList ds p := fun sp' hsp => trodAll_stays hl hbel hpar hA hlt hsp
 have hresults : ∀ (b : Nat) (sp : Nat→Bool) (hd : Bool),DataW.TrodAll enc P W' b sp hd fn.resultTypes.toList ((Value.bool true).resultList fn.resultTypes.size) [.lit (.bool true)] [] := fun b sp hd => by
  rw [hres]
  exact trodAll_mk1 (shut_bool htb true)
 refine ⟨_,rfl,ds,[],p,[],p,[],hW',?_,?_,?_,hbel.frame _,fun _ => ⟨ok_one hres rfl (okWide_bool_mk htb true),?_⟩⟩
 · rw [List.append_nil,hs1]; exact hresults _ _ _
 · rw [List.append_nil,hs2]; exact hstay _ fun x hx=>by simpa using hlt x hx
 · rw [List.append_nil,hvars,hs3]; exact rfl
 · refine ⟨_, [], p, ⟨p, [], trodAll_append (p := []) (hstay _ fun _ _ => rfl) (hresults _ _ _), by rw [hvars]; exact rfl, by simp, ?_, by simpa using hnd⟩, fun x hx _ => hx⟩
   intro b off hp
   rw [hbel.frozen (hlt _ hp)]
   exact hfz b off (by simpa using hp)
end Go.Proofs.YtcoehdmpjflmlaaGreatDoor

namespace Go.Proofs.YtcoehdmpjflmlaaGreatDoor
open Go.ChangeShapes Go.WideShapes Go.ChangeAt Go.RowKit
set_option linter.unusedVariables false

theorem own : ownKnob Tryz.prog.godebug = none := by kernel_rfl
theorem laidOut : laidOutB Tryz.prog = true := by kernel_rfl
def parsOk (P : Program) (ts : List TypeId) : Bool := ts.all fun t => P.readableRec t && decide (t < P.types.size)
def inG (G ts : List TypeId) : Bool := ts.all fun t => G.contains t
theorem inG_of {G ts : List TypeId} (h : inG G ts = true) : ∀ t∈ts,G.contains t = true := fun t ht => List.all_eq_true.1 h t ht
theorem parsOk_of {P : Program} {ts : List TypeId} (h : parsOk P ts = true) : ∀ t∈ts,P.readableRec t = true∧t < P.types.size := fun t ht => by
 have := List.all_eq_true.1 h t ht
 simpa using this

abbrev laidV : List (String × DataW Unit) := [("math/bits.deBruijn64tab",Rows.laid_math_bits_deBruijn64tab)]
set_option maxRecDepth 100000 in
theorem door_met (os : Os) (args : Array Value) : laidMetH Tryz.prog laidV ((World.doorLaid Tryz.prog 400 os).forCall (fun _ _ => 0) ⟨#[],args,[]⟩).memory :=
 laidMetH_of_parts3 (fuel := 8) (laidMet_of_run' 8 (by kernel_rfl) (by kernel_rfl)) (by kernel_rfl) (by kernel_rfl)
theorem laid_tab : (Rows.laid_math_bits_deBruijn64tab : DataW Unit) = .agg (tzTab.map fun x => .lit (.int .u8 x)) := rfl
set_option maxRecDepth 100000 in
theorem globs_in {W : World} (h : laidMetH Tryz.prog laidV W) : GlobsIn W := by
 rw [MakeChecks.laidMetH_plain _ _ _ (by kernel_rfl)] at h
 obtain ⟨ps,⟨g0,t0,cs,f0,p0,q0,hg0,ht0,hv0,hd0,_,_⟩,_,_⟩ := h
 obtain rfl := Option.some.inj ((show Tryz.prog.globalNamed "math/bits.deBruijn64tab" = some 0 by kernel_rfl).symm.trans hg0)
 obtain rfl := Option.some.inj ((show (Tryz.prog.globals[0]?).map (·.type) = some 169 by kernel_rfl).symm.trans ht0)
 obtain ⟨xs,m,rfl,hx,hlen,hn,hel⟩ := DataW.trod_array (show Tryz.prog.underlying 169 = some (.array 64 5) by kernel_rfl) hd0
 have c1 : Tryz.prog.cellsOf 5 = 1 := by kernel_rfl
 have c64 : Tryz.prog.cellsOf 169 = 64 := by kernel_rfl
 simp only [Prod.mk.injEq] at hx
 have hx1 : tzTab.map (fun x => (DataW.lit (.int .u8 x) : DataW Unit)) = xs.map (·.1) := by
  have := hx.1
  rw [laid_tab] at this
  simpa using this
 intro g j v hv
 unfold globs at hv
 cases hb : Nat.beq g 0 with
 | false => rw [hb] at hv; simp at hv
 | true =>
   obtain rfl : g = 0 := Nat.eq_of_beq_eq_true hb
   rw [hb] at hv
   simp only [cond_true,List.getElem?_map] at hv
   have hj : j < 64 := by
    cases hx : tzTab[j]? with
    | none => rw [hx] at hv; cases hv
    | some x => have := (List.getElem?_eq_some_iff.1 hx).1; exact this
   have hj2 : j < tzTab.length := hj
   rw [List.getElem?_eq_getElem hj2] at hv
   simp only [Option.map_some,Option.some.injEq] at hv
   subst hv
   have e1 := congrArg (fun l => l[j]?) hx1
   simp only [List.getElem?_map] at e1
   rw [List.getElem?_eq_getElem hj2,List.getElem?_eq_getElem (show j < xs.length by omega)] at e1
   simp only [Option.map_some,Option.some.injEq] at e1
   have e2 := hel j hj
   rw [List.getElem?_eq_getElem (show j < xs.length by omega),c1] at e2
   obtain ⟨k,h1,h2,_⟩ := DataW.trod_int (show Tryz.prog.underlying 5 = some (.int .u8) by kernel_rfl) e2
   rw [h2] at e1
   simp only [DataW.lit.injEq,Lit.int.injEq,true_and] at e1
   subst e1
   rw [Nat.mul_one] at h1
   rw [World.var?_cell hg0 hv0 j]
   have h3 : cs.toList[j]? = (cs.toList.drop j)[0]? := by simp
   have h4 : (cs.toList.drop j)[0]? = ((cs.toList.drop j).take 1)[0]? := by simp
   rw [← Array.getElem?_toList,h3,h4,h1]
   rfl
end Go.Proofs.YtcoehdmpjflmlaaGreatDoor

namespace Go.Proofs.YtcoehdmpjflmlaaGreatDoor
open Go.RowKit
set_option linter.unusedVariables false
attribute [local irreducible] aw opsK dK

def nums (l : List Int) : List (List PV) := l.map fun x => [.val (.int .i64 x)]
def words (l : List Nat) : List (List PV) := l.map fun (x : Nat) => [.val (.int .u64 (x : Int))]
def setP (l : List Nat) : PV := .agg [.vec (words l) false]
theorem pureLL_map {α : Type} (l : List α) (g : α→List PV) (hg : ∀ x∈l,pureL (g x)) : pureLL (l.map g) := by
 refine (innLL_iff _ _).2 fun p hp => ?_; obtain ⟨x,hx,rfl⟩ := List.mem_map.1 hp; exact hg x hx
theorem setP_pure (l : List Nat) : (setP l).pure := ⟨pureLL_map _ _ fun _ _ => ⟨trivial,trivial⟩,trivial⟩
theorem words_pure (l : List Nat) : pureLL (words l) := pureLL_map _ _ fun _ _ => ⟨trivial,trivial⟩

def IsTrim (l : List Nat) (r : PV) : Prop := ∃ k,k≤l.length∧(∀ j,k≤j→l.getD j 0 = 0)∧(k = 0 ∨ l.getD (k - 1) 0≠0)∧r = setP (l.take k)

theorem wrap_nat (k : Nat) (h : k≤9223372036854775807) : IntKind.i64.wrap (k : Int) = k := IntWalk.i64_in _ ⟨by omega,by omega⟩

theorem trim_spec (l : List Nat) : Spec Tryz.prog 63 [.vec (words l) false] (IsTrim l) := by
 refine spec_intro ok63 (Nat.le_of_ble_eq_true rfl) fun C hC => ?_
 refine aw_len (k := 0) rfl fun hmax => ?_
 have hlm : l.length≤maxVec := by simpa [words] using hmax
 refine aw_seq ?_
 refine aw_region ?_
 (refine go ?_;repeat' (apply B<;>intro hb<;>try cases hb))
 refine aw_loopE (fun k => k≤l.length∧∀ j,k≤j→l.getD j 0 = 0) id (fun k => [(0,.vec (words (l.take k)) false),(2,.ptr 0 0 0)]) l.length ⟨Nat.le_refl _,fun j hj=>by simp [List.getD_eq_getElem?_getD,hj]⟩ ⟨by rw [List.take_length]; rfl,rfl,trivial⟩ ?_
 rintro k ⟨hk,hzero⟩
 have hlen : (words (l.take k)).length = k := by simp [words,hk]
 have hkm : k≤maxVec := by omega
 (refine go ?_;repeat' (apply B<;>intro hb<;>try cases hb))
 · -- the last word
   have hpos : 0 < k := by simpa [hlen] using hb
   have hsub : IntKind.i64.wrap (((words (l.take k)).length : Int) - 1) = ((k - 1 : Nat) : Int) := by
    rw [hlen,show (k : Int) - 1 = ((k - 1 : Nat) : Int) by omega]; exact wrap_nat _ (by simp only [maxVec] at hkm;omega)
   refine opsK_iaddr (xs := l.take k) rfl rfl (k - 1) hsub (by simp;omega) rfl rfl ?_
   have hget : (l.take k)[k - 1]'(by simp;omega) = l.getD (k - 1) 0 := by
    simp [List.getD_eq_getElem?_getD,show k - 1 < l.length by omega]
   rw [hget]
   (refine go ?_;repeat' (apply B<;>intro hb<;>try cases hb))
   · refine opsK_slc (xs := l.take k) rfl 0 (k - 1) rfl (by show some _ = some _; rw [hsub]) (by omega) (by simp; omega) (fun _ => rfl) rfl ?_
     (refine go ?_;repeat' (apply B<;>intro hb<;>try cases hb))
     refine ⟨k - 1,⟨by omega,fun j hj => ?_⟩,by simp; omega,rfl,rfl,⟨?_,rfl,trivial⟩⟩
     · by_cases hjk : j = k - 1
       · subst hjk; simpa using hb
       · exact hzero j (by omega)
     · show some (PV.vec (words (((l.take k).take (k - 1)).drop 0)) false) = _
       rw [List.drop_zero,List.take_take,Nat.min_eq_left (by omega)]
   · refine ret_ok rfl (setP_pure (l.take k)) ⟨k, hk, hzero, .inr ?_, rfl⟩
     intro h0
     rw [h0] at hb
     simp at hb
 · refine ret_ok rfl (setP_pure (l.take k)) ⟨k, hk, hzero, .inl ?_, rfl⟩
   simpa [hlen] using hb

theorem word_spec (l : List Nat) (k : Nat) : Spec Tryz.prog 39 [setP l,.val (.int .i64 k)] (· = .val (.int .u64 (l.getD k 0 : Nat))) := by
 refine spec_intro ok39 (Nat.le_of_ble_eq_true rfl) fun C hC => ?_
 refine aw_seq ?_
 refine aw_region ?_
 refine opsK_ofAlt rfl rfl rfl ?_
 (refine go ?_;repeat' (apply B<;>intro hb<;>try cases hb))
 · have hk : k < l.length := by simpa [words] using hb
   refine opsK_iaddr (xs := l) rfl rfl k rfl hk rfl rfl ?_
   (refine go ?_;repeat' (apply B<;>intro hb<;>try cases hb))
   exact ret_ok rfl trivial (by simp [List.getD_eq_getElem?_getD,hk])
 · have hk : l.length ≤ k := by simpa [words] using hb
   exact ret_ok rfl trivial (by simp [List.getD_eq_getElem?_getD,hk,pvOf])

def ofW : List Nat→Nat
 | [] => 0
 | x :: r => x + 18446744073709551616 * ofW r
def Words (l : List Nat) : Prop := ∀ x∈l,x < 18446744073709551616
theorem Words.getD {l : List Nat} (h : Words l) (k : Nat) : l.getD k 0 < 18446744073709551616 := by
 rw [List.getD_eq_getElem?_getD]
 cases hk : l[k]? with
 | none => simp
 | some x => exact h x (List.mem_of_getElem? hk)
theorem ofW_testBit : ∀ {l : List Nat},Words l→∀ i,(ofW l).testBit i = (l.getD (i / 64) 0).testBit (i % 64)
 | [],_,i=>by simp [ofW]
 | x :: r, h, i => by
   have hx : x < 2 ^ 64 := h x (by simp)
   have hr : Words r := fun y hy => h y (by simp [hy])
   have he : ofW (x :: r) = 2 ^ 64 * ofW r + x := by simp only [ofW]; omega
   rw [he,Nat.testBit_two_pow_mul_add _ hx]
   by_cases hi : i < 64
   · rw [if_pos hi,Nat.div_eq_of_lt hi,Nat.mod_eq_of_lt hi]; rfl
   · rw [if_neg hi, ofW_testBit hr]
     have h1 : i / 64 = (i - 64) / 64 + 1 := by omega
     have h2 : (i - 64) % 64 = i % 64 := by omega
     rw [h1,h2]
     rfl
theorem ofW_zero : ∀ {l : List Nat},(∀ j,l.getD j 0 = 0)→ofW l = 0
 | [],_ => rfl
 | x :: r, h => by
   have h0 : x = 0 := h 0
   have hr : ofW r = 0 := ofW_zero fun j => h (j + 1)
   simp [ofW,h0,hr]
theorem ofW_take : ∀ {l : List Nat} {k : Nat},(∀ j,k≤j→l.getD j 0 = 0)→ofW (l.take k) = ofW l
 | [],k,_=>by simp
 | x :: r,0,h=>by simp only [List.take_zero]; exact (ofW_zero fun j => h j (Nat.zero_le _)).symm
 | x :: r, k + 1, h => by
   simp only [List.take_succ_cons,ofW]
   rw [ofW_take (l := r) (k := k) fun j hj => h (j + 1) (by omega)]

def digs (N : Nat) : List Nat := if h : N = 0 then [] else N % 18446744073709551616 :: digs (N / 18446744073709551616)
termination_by N
decreasing_by omega
theorem digs_zero : digs 0 = [] := by rw [digs]; simp
theorem digs_pos {N : Nat} (h : N≠0) : digs N = N % 18446744073709551616 :: digs (N / 18446744073709551616) := by rw [digs]; simp [h]
theorem digs_words (N : Nat) : Words (digs N) := by
 induction N using Nat.strongRecOn with
 | _ N ih =>
   by_cases h : N = 0
   · rw [h,digs_zero]; intro x hx; cases hx
   · rw [digs_pos h]
     intro x hx
     rcases List.mem_cons.1 hx with rfl | hx
     · omega
     · exact ih _ (by omega) x hx
theorem ofW_digs (N : Nat) : ofW (digs N) = N := by
 induction N using Nat.strongRecOn with
 | _ N ih =>
   by_cases h : N = 0
   · rw [h,digs_zero]; rfl
   · rw [digs_pos h,ofW,ih _ (by omega)]; omega
def Canon (l : List Nat) : Prop := l.length = 0 ∨ l.getD (l.length - 1) 0≠0
theorem digs_ofW : ∀ {l : List Nat},Words l→Canon l→digs (ofW l) = l
 | [],_,_=>by simp [ofW,digs_zero]
 | x :: r, h, hc => by
   have hx : x < 18446744073709551616 := h x (by simp)
   have hr : Words r := fun y hy => h y (by simp [hy])
   have hcr : Canon r := by
    cases r with
    | nil => exact .inl rfl
    | cons y s => refine .inr ?_; rcases hc with hc | hc
                  · simp at hc
                  · simpa using hc
   have ih := digs_ofW hr hcr
   have hne : ofW (x :: r)≠0 := by
    simp only [ofW]
    cases r with
    | nil => rcases hc with hc | hc
             · simp at hc
             · simp at hc; simp [ofW]; exact hc
    | cons y s =>
      have : ofW (y :: s)≠0 := fun h0=>by rw [h0,digs_zero] at ih; cases ih
      omega
   have h1 : ofW (x :: r) % 18446744073709551616 = x := by simp only [ofW]; omega
   have h2 : ofW (x :: r) / 18446744073709551616 = ofW r := by simp only [ofW]; omega
   rw [digs_pos hne,h1,h2,ih]
def setN (N : Nat) : PV := setP (digs N)
theorem setN_pure (N : Nat) : (setN N).pure := setP_pure _
theorem setP_ofW {l : List Nat} (h : Words l) (hc : Canon l) : setP l = setN (ofW l) := by rw [setN,digs_ofW h hc]
theorem IsTrim.set {l : List Nat} (hl : Words l) {r : PV} (h : IsTrim l r) : r = setN (ofW l) := by
 obtain ⟨k,hk,hz,hn,rfl⟩ := h
 rw [← ofW_take hz]
 refine setP_ofW (fun x hx => hl x (List.mem_of_mem_take hx)) ?_
 rcases hn with rfl | hn
 · exact .inl (by simp)
 · by_cases h0 : k = 0
   · subst h0; exact .inl (by simp)
   · refine .inr ?_
     have e : (l.take k).length = k := by simp [hk]
     rw [e]
     simpa [List.getD_eq_getElem?_getD,List.getElem?_take,show k - 1 < k by omega] using hn
theorem words_set (l : List Nat) (k v : Nat) : (words l).set k [.val (.int .u64 (v : Int))] = words (l.set k v) := by simp [words,List.map_set]
theorem Words.set {l : List Nat} (h : Words l) (k : Nat) {v : Nat} (hv : v < 18446744073709551616) : Words (l.set k v) := fun x hx => by
 rcases List.mem_or_eq_of_mem_set hx with hx | rfl
 · exact h x hx
 · exact hv
theorem ofW_or {l : List Nat} (h : Words l) {k j : Nat} (hk : k < l.length) (hj : j < 64) : ofW (l.set k (l.getD k 0 ||| 2 ^ j)) = ofW l ||| 2 ^ (64 * k + j) := by
 have hv : l.getD k 0 ||| 2 ^ j < 18446744073709551616 := Nat.or_lt_two_pow (n := 64) (h.getD k) (Nat.pow_lt_pow_right (by omega) hj)
 refine Nat.eq_of_testBit_eq fun i => ?_
 rw [ofW_testBit (h.set k hv),Nat.testBit_or,ofW_testBit h,Nat.testBit_two_pow]
 by_cases hik : i / 64 = k
 · subst hik
   have : (l.set (i / 64) (l.getD (i / 64) 0 ||| 2 ^ j)).getD (i / 64) 0 = l.getD (i / 64) 0 ||| 2 ^ j := by simp [List.getD_eq_getElem?_getD,hk]
   rw [this,Nat.testBit_or,Nat.testBit_two_pow]
   congr 1
   rw [decide_eq_decide]
   omega
 · have : (l.set k (l.getD k 0 ||| 2 ^ j)).getD (i / 64) 0 = l.getD (i / 64) 0 := by
    simp only [List.getD_eq_getElem?_getD,List.getElem?_set,if_neg (Ne.symm hik)]
   rw [this]
   have : ¬ (64 * k + j = i) := by omega
   simp [this]

def maskTo (top : Int) (l : List Int) : Nat := l.foldl (fun acc i => if 0≤i∧i≤top then acc ||| 2 ^ i.toNat else acc) 0
def topOf (l : List Int) : Int := l.foldl (fun t i => if i≤4095 then (if i > t then i else t) else t) (-1)
theorem topOf_take {l : List Int} {i : Nat} (hi : i < l.length) : topOf (l.take (i + 1)) = if l[i]≤4095 then (if l[i] > topOf (l.take i) then l[i] else topOf (l.take i)) else topOf (l.take i) := by
 simp only [topOf,List.take_add_one,List.getElem?_eq_getElem hi,Option.toList_some,List.foldl_append,List.foldl_cons,List.foldl_nil]
 rfl
theorem topOf_take' {l : List Int} {i : Nat} (hi : i < l.length) (h : l[i]≤4095) : topOf (l.take (i + 1)) = if l[i] > topOf (l.take i) then l[i] else topOf (l.take i) := by rw [topOf_take hi,if_pos h]
theorem topOf_take0 {l : List Int} {i : Nat} (hi : i < l.length) (h : ¬ l[i]≤4095) : topOf (l.take (i + 1)) = topOf (l.take i) := by rw [topOf_take hi,if_neg h]
theorem maskTo_take {t : Int} {l : List Int} {i : Nat} (hi : i < l.length) : maskTo t (l.take (i + 1)) = if 0≤l[i]∧l[i]≤t then maskTo t (l.take i) ||| 2 ^ l[i].toNat else maskTo t (l.take i) := by
 simp only [maskTo,List.take_add_one,List.getElem?_eq_getElem hi,Option.toList_some,List.foldl_append,List.foldl_cons,List.foldl_nil]
theorem topOf_range : ∀ (l : List Int),-1≤topOf l∧topOf l≤4095 := by
 intro l
 have : ∀ (l : List Int) (t : Int),-1≤t→t≤4095 → -1≤l.foldl (fun t i => if i≤4095 then (if i > t then i else t) else t) t∧l.foldl (fun t i => if i≤4095 then (if i > t then i else t) else t) t≤4095 := by
  intro l
  induction l with
  | nil => intro t h1 h2; exact ⟨h1,h2⟩
  | cons x r ih =>
    intro t h1 h2
    simp only [List.foldl_cons]
    refine ih _ ?_ ?_
    · split
      · split <;> omega
      · exact h1
    · split
      · split <;> omega
      · exact h2
 exact this l (-1) (by omega) (by omega)
theorem maskTo_neg {t : Int} {l : List Int} (h : t < 0) : maskTo t l = 0 := by
 have : ∀ (l : List Int) (a : Nat),l.foldl (fun acc i => if 0≤i∧i≤t then acc ||| 2 ^ i.toNat else acc) a = a := by
  intro l
  induction l with
  | nil => intro a; rfl
  | cons x r ih => intro a; simp only [List.foldl_cons]; rw [if_neg (by omega)]; exact ih a
 exact this l 0
theorem nums_pure (l : List Int) : pureLL (nums l) := pureLL_map _ _ fun _ _ => ⟨trivial,trivial⟩
theorem nums_inn (l : List Int) (D : Nat→Prop) : innLL D (nums l) := innLL_mono (fun _ h => h.elim) _ (nums_pure l)
theorem words_inn (l : List Nat) (D : Nat→Prop) : innLL D (words l) := innLL_mono (fun _ h => h.elim) _ (words_pure l)

set_option maxHeartbeats 1000000 in
theorem of_spec (l : List Int) (fl : Bool) : Spec Tryz.prog 28 [.vec (nums l) fl] (· = setN (maskTo (topOf l) l)) := by
 refine spec_intro ok28 (Nat.le_of_ble_eq_true rfl) fun C hC => ?_
 refine aw_len (k := 0) rfl fun hmax => ?_
 have hlm : l.length≤maxVec := by simpa [nums] using hmax
 have hnl : (nums l).length = l.length := by simp [nums]
 (refine go ?_;repeat' (apply B<;>intro hb<;>try cases hb))
 refine aw_loopE (fun i => i≤l.length) (fun i => l.length - i) (fun i => [(0,.vec (nums l) fl),(2,.ptr 0 0 0),(3,.val (.int .i64 (topOf (l.take i)))),(9,.vec (nums l) fl),(10,.val (.int .i64 (l.length : Int))),(11,.val (.int .i64 (i : Int)))]) 0 (Nat.zero_le _) ⟨rfl,rfl,rfl,rfl,by rw [← hnl]; rfl,rfl,trivial⟩ ?_
 intro i hi
 have hinc : IntKind.i64.wrap ((i : Int) + 1) = ((i + 1 : Nat) : Int) := IntWalk.i64_in _ ⟨by omega,by simp only [maxVec] at hlm; omega⟩
 (refine go ?_;repeat' (apply B<;>intro hb<;>try cases hb))
 · have hil : i < l.length := by simpa using hb
   refine opsK_of (E_iaddr (xs := l) rfl rfl i rfl hil rfl) rfl rfl ?_
   (refine go ?_;repeat' (apply B<;>intro hb<;>try cases hb))
   · refine ⟨i + 1, by omega, by omega, rfl, rfl, ⟨rfl, rfl, ?_, rfl, rfl, by show some _ = some _; rw [hinc], trivial⟩⟩
     rw [topOf_take' hil (by simpa using hb)]; rfl
   · refine ⟨i + 1, by omega, by omega, rfl, rfl, ⟨rfl, rfl, ?_, rfl, rfl, by show some _ = some _; rw [hinc], trivial⟩⟩
     rw [topOf_take0 hil (by simpa using hb)]; rfl
 · -- no member
   rename_i hb2
   have hil : i = l.length := by simp at hb2; omega
   subst hil
   refine ret_low rfl ⟨trivial,trivial⟩ ?_
   rw [List.take_length] at hb
   have hlt : topOf l < 0 := by simpa using hb
   rw [maskTo_neg hlt,setN,digs_zero]
   rfl
 · rename_i hb2
   have hil : i = l.length := by simp at hb2; omega
   subst hil
   rw [List.take_length] at hb ⊢
   have hge : 0≤topOf l := by simpa using hb
   obtain ⟨t,ht⟩ : ∃ t : Nat,topOf l = t := ⟨(topOf l).toNat,by omega⟩
   have htr := (topOf_range l).2
   rw [ht] at htr ⊢
   have hq : IntKind.i64.wrap ((t : Int).tdiv 64) = ((t / 64 : Nat) : Int) := by
    rw [IntWalk.i64_quo _ _ ⟨by omega,by omega,by omega⟩]; omega
   have hq1 : IntKind.i64.wrap (((t / 64 : Nat) : Int) + 1) = ((t / 64 + 1 : Nat) : Int) := IntWalk.i64_in _ ⟨by omega,by omega⟩
   rw [hq,hq1]
   refine opsK_new (E_mslice (a := t / 64 + 1) (b := t / 64 + 1) rfl rfl (Nat.le_refl _) (by omega)) rfl rfl ?_
   have hrep : List.replicate (t / 64 + 1) (zpv [Value.int .u64 0]) = words (List.replicate (t / 64 + 1) 0) := by simp [words,zpv,pvOf]
   rw [hrep]
   (refine go ?_;repeat' (apply B<;>intro hb<;>try cases hb))
   refine aw_loopH hC (fun (x : Nat × List Nat) => x.1≤l.length∧x.2.length = t / 64 + 1∧Words x.2∧ofW x.2 = maskTo t (l.take x.1)) (fun x => l.length - x.1) 2 (fun x => [(2,.ptr 0 0 0),(3,.val (.int .i64 (t : Int))),(6,.own 1),(28,.vec (nums l) fl),(29,.val (.int .i64 (l.length : Int))),(30,.val (.int .i64 (x.1 : Int)))])
    (fun x => [(0,⟨1,[[.vec [] true]]⟩),(1,⟨1,words x.2⟩)]) (by omega) (0,List.replicate (t / 64 + 1) 0) ⟨Nat.zero_le _,by simp,fun x hx=>by obtain rfl := List.eq_of_mem_replicate hx; omega,?_⟩ ⟨⟨rfl,show (0 : Nat) < 2 by decide⟩,⟨rfl,trivial⟩,⟨rfl,show (1 : Nat) < 2 by decide⟩,⟨rfl,nums_inn _ _⟩,⟨by rw [← hnl]; rfl,trivial⟩,⟨rfl,trivial⟩,trivial⟩
    ⟨⟨by omega,rfl,⟨trivial,trivial⟩,trivial⟩,⟨by omega,rfl,words_inn _ _⟩,trivial⟩ ?_
   · rw [ofW_zero fun j=>by simp [List.getD_eq_getElem?_getD,List.getElem?_replicate]; split <;> rfl]; rfl
   rintro ⟨i,ws⟩ ⟨hi,hwl,hww,hmask⟩
   simp only at hi hwl hww hmask
   have hinc : IntKind.i64.wrap ((i : Int) + 1) = ((i + 1 : Nat) : Int) := IntWalk.i64_in _ ⟨by omega,by simp only [maxVec] at hlm; omega⟩
   (refine go ?_;repeat' (apply B<;>intro hb<;>try cases hb))
   · have hil : i < l.length := by simpa using hb
     refine opsK_of (E_iaddr (xs := l) rfl rfl i rfl hil rfl) rfl rfl ?_
     (refine go ?_;repeat' (apply B<;>intro hb<;>try cases hb))
     · have h0 : 0 ≤ l[i] := by rename_i h0; simpa using h0
       have h1 : l[i]≤(t : Int) := by simpa using hb
       have hm : maskTo t (l.take (i + 1)) = maskTo t (l.take i) ||| 2 ^ l[i].toNat := by rw [maskTo_take hil,if_pos ⟨h0,h1⟩]
       obtain ⟨j,hj⟩ : ∃ j : Nat,l[i] = j := ⟨l[i].toNat,by omega⟩
       rw [hj] at h1 hm ⊢
       rw [Int.toNat_natCast] at hm
       have hjq : IntKind.i64.wrap ((j : Int).tdiv 64) = ((j / 64 : Nat) : Int) := by
        rw [IntWalk.i64_quo _ _ ⟨by omega,by omega,by omega⟩]; omega
       have hjr : (j : Int).tmod 64 = ((j % 64 : Nat) : Int) := by
        rw [Int.tmod_eq_emod_of_nonneg (by omega)]; omega
       rw [hjq]
       have hjl : j / 64 < ws.length := by omega
       have hel : (words ws).getD (j / 64) [] = [.val (.int .u64 (ws.getD (j / 64) 0 : Nat))] := by simp [words,List.getD_eq_getElem?_getD,hjl]
       have hj64 : j % 64 < 64 := Nat.mod_lt _ (by omega)
       have hwn : (words ws).length = ws.length := by simp [words]
       refine dK_of (E_iaddrO rfl rfl rfl (j / 64) rfl (by rw [hwn]; exact hjl) rfl) rfl rfl ?_
       refine dK_of (E_load rfl rfl (by rw [hwn]; exact hjl) (by rw [hel]; rfl)) rfl rfl ?_
       (first|refine st ?_|(apply B<;>intro hb<;>try cases hb))
       refine dK_of (E_int rfl hjr) rfl rfl ?_
       refine dK_of (E_shl rfl rfl (by omega) (v := ((2 ^ (j % 64) : Nat) : Int)) (by
        rw [show min (((j % 64 : Nat) : Int)).toNat IntKind.u64.bits = j % 64 by simp [IntKind.bits]; omega]
        have : 2 ^ (j % 64) < 2 ^ 64 := Nat.pow_lt_pow_right (by omega) hj64
        rw [Int.one_mul,show (2 : Int) ^ (j % 64) = ((2 ^ (j % 64) : Nat) : Int) by simp]
        exact IntWalk.u64_in _ ⟨Int.natCast_nonneg _,Int.ofNat_le.2 (show _≤18446744073709551615 by omega)⟩)) rfl rfl ?_
       refine dK_of (E_int rfl (bits_or_u64_nat _ _ (hww.getD _) (show 2 ^ (j % 64) < 2 ^ 64 from Nat.pow_lt_pow_right (by omega) hj64))) rfl rfl ?_
       refine dK_of (E_iaddrO rfl rfl rfl (j / 64) rfl (by rw [hwn]; exact hjl) rfl) rfl rfl ?_
       refine dK_of (E_store rfl rfl rfl rfl rfl (by rw [hwn]; exact hjl) (Nat.le_refl _)) rfl rfl ?_
       rw [hel,show setAt [PV.val (Value.int .u64 (ws.getD (j / 64) 0 : Nat))] 0 (PV.val (Value.int .u64 ((ws.getD (j / 64) 0 ||| 2 ^ (j % 64) : Nat) : Int))).cells = [.val (.int .u64 ((ws.getD (j / 64) 0 ||| 2 ^ (j % 64) : Nat) : Int))] from rfl]
       simp only
       rw [words_set]
       (refine go ?_;repeat' (apply B<;>intro hb<;>try cases hb))
       refine ⟨(i + 1,ws.set (j / 64) (ws.getD (j / 64) 0 ||| 2 ^ (j % 64))),⟨by simp only; omega,by simpa using hwl,hww.set _ (Nat.or_lt_two_pow (n := 64) (hww.getD _) (Nat.pow_lt_pow_right (a := 2) (by omega) hj64)),?_⟩,by simp only; omega,⟨⟨rfl,show (0 : Nat) < 2 by decide⟩,⟨rfl,trivial⟩,⟨rfl,show (1 : Nat) < 2 by decide⟩,⟨rfl,nums_inn _ _⟩,⟨rfl,trivial⟩,⟨by show some _ = some _; rw [hinc],trivial⟩,trivial⟩,⟨⟨by omega,rfl,⟨trivial,trivial⟩,trivial⟩,⟨by omega,rfl,words_inn _ _⟩,trivial⟩⟩
       simp only
       rw [ofW_or hww hjl hj64,hm,hmask,show 64 * (j / 64) + j % 64 = j by omega]
     all_goals
      refine ⟨(i + 1,ws),⟨by simp only; omega,hwl,hww,?_⟩,by simp only; omega,⟨⟨rfl,show (0 : Nat) < 2 by decide⟩,⟨rfl,trivial⟩,⟨rfl,show (1 : Nat) < 2 by decide⟩,⟨rfl,nums_inn _ _⟩,⟨rfl,trivial⟩,⟨by show some _ = some _; rw [hinc],trivial⟩,trivial⟩,⟨⟨by omega,rfl,⟨trivial,trivial⟩,trivial⟩,⟨by omega,rfl,words_inn _ _⟩,trivial⟩⟩
      simp only
      rw [maskTo_take hil,if_neg (by simp at hb;omega)]
      exact hmask
   · have hil : i = l.length := by simp at hb; omega
     subst hil
     refine opsK_sub (subA_freeze (k := 52) rfl rfl (words_pure ws)) ?_
     refine opsK_spec rfl rfl (trim_spec ws) ⟨words_pure ws,trivial⟩ rfl fun r hr => ?_
     obtain rfl := hr.set hww
     (refine go ?_;repeat' (apply B<;>intro hb<;>try cases hb))
     exact ret_ok (r := setN (ofW ws)) rfl (setN_pure _) (by rw [hmask,List.take_length])

theorem fdiv_pow (a k : Nat) : Int.fdiv (a : Int) (2 ^ k) = ((a / 2 ^ k : Nat) : Int) := by
 rw [Int.fdiv_eq_ediv_of_nonneg _ (by exact Int.le_of_lt (Int.pow_pos (by omega)))]
 simp

theorem has_spec (l : List Nat) (hl : Words l) (i : Int) : Spec Tryz.prog 74 [setP l,.val (.int .i64 i)] (· = .val (.bool (decide (0≤i∧i≤4095) && (l.getD (i.toNat / 64) 0).testBit (i.toNat % 64)))) := by
 refine spec_intro ok74 (Nat.le_of_ble_eq_true rfl) fun C hC => ?_
 refine aw_seq ?_
 refine aw_region ?_
 refine opsK_ofAlt rfl rfl rfl ?_
 (refine go ?_;repeat' (apply B<;>intro hb<;>try cases hb))
 · rename_i h0
   have h1 : 0≤i := by simpa using h0
   have h2 : i≤4095 := by simpa using hb
   obtain ⟨j,rfl⟩ : ∃ j : Nat,i = j := ⟨i.toNat,by omega⟩
   have hq : IntKind.i64.wrap ((j : Int).tdiv 64) = ((j / 64 : Nat) : Int) := by
    rw [IntWalk.i64_quo _ _ ⟨by omega,by omega,by omega⟩]; omega
   have hr : (j : Int).tmod 64 = ((j % 64 : Nat) : Int) := by
    rw [Int.tmod_eq_emod_of_nonneg (by omega)]; omega
   refine opsK_eq (word_spec l (j / 64)) rfl rfl (by show [_,_] = _; rw [hq]; rfl) ⟨setP_pure l,trivial,trivial⟩ rfl ?_
   refine opsK_on rfl ?_
   (first|refine st ?_|(apply B<;>intro hb<;>try cases hb))
   refine opsK_on rfl ?_
   refine opsK_int rfl rfl rfl hr ?_
   refine opsK_on rfl ?_
   have hw := hl.getD (j / 64)
   have hm : j % 64 < 64 := Nat.mod_lt _ (by omega)
   refine opsK_shr rfl rfl (by omega) (v := ((l.getD (j / 64) 0 / 2 ^ (j % 64) : Nat) : Int)) (by
    rw [show min (((j % 64 : Nat) : Int)).toNat IntKind.u64.bits = j % 64 by simp [IntKind.bits]; omega]
    exact fdiv_pow _ _) rfl ?_
   refine opsK_on rfl ?_
   refine opsK_int rfl rfl rfl (and_one_u64 _ (Int.natCast_nonneg _) (by
    have := Nat.div_le_self (l.getD (j / 64) 0) (2 ^ (j % 64))
    exact Int.ofNat_le.2 (show _≤18446744073709551615 by omega))) ?_
   have ht : (((l.getD (j / 64) 0 / 2 ^ (j % 64) : Nat) : Int) % 2 == 1) = (l.getD (j / 64) 0).testBit (j % 64) := by
    rw [Nat.testBit_eq_decide_div_mod_eq,Bool.eq_iff_iff]
    generalize l.getD (j / 64) 0 / 2 ^ (j % 64) = z
    simp only [beq_iff_eq,decide_eq_true_eq]
    omega
   have ht' : (decide (0≤(j : Int)∧(j : Int)≤4095) && (l.getD ((j : Int).toNat / 64) 0).testBit ((j : Int).toNat % 64)) = (l.getD (j / 64) 0).testBit (j % 64) := by
    simp only [Int.toNat_natCast,decide_eq_true (show 0≤(j : Int)∧(j : Int)≤4095 from ⟨h1,h2⟩),Bool.true_and]
   rw [ht',← ht]
   refine opsK_on rfl ?_
   generalize (((l.getD (j / 64) 0 / 2 ^ (j % 64) : Nat) : Int) % 2) = z
   (refine go ?_;repeat' (apply B<;>intro hb<;>try cases hb))
   all_goals exact ret_ok rfl trivial (by rw [hb])
 · exact ret_ok rfl trivial (by simp at hb ⊢;omega)
 · exact ret_ok rfl trivial (by simp at hb ⊢;omega)
end Go.Proofs.YtcoehdmpjflmlaaGreatDoor

namespace Go.Proofs.YtcoehdmpjflmlaaGreatDoor
open Go.RowKit
set_option linter.unusedVariables false
attribute [local irreducible] aw opsK dK

def popK : Nat→Nat→Nat
 | 0,_ => 0
 | k + 1,x => x % 2 + popK k (x / 2)
theorem popK_add : ∀ (j k x : Nat),popK (j + k) x = popK j x + popK k (x / 2 ^ j)
 | 0,k,x=>by simp [popK]
 | j + 1, k, x => by
   rw [show j + 1 + k = (j + k) + 1 by omega]
   simp only [popK]
   rw [popK_add j k,Nat.div_div_eq_div_mul,Nat.pow_succ,Nat.mul_comm 2]
   omega
theorem popK_mod : ∀ (j x : Nat),popK j (x % 2 ^ j) = popK j x
 | 0,x => rfl
 | j + 1, x => by
   simp only [popK]
   have h1 : x % 2 ^ (j + 1) % 2 = x % 2 := Nat.mod_mod_of_dvd _ ⟨2 ^ j,by rw [Nat.pow_succ,Nat.mul_comm]⟩
   have h2 : x % 2 ^ (j + 1) / 2 = x / 2 % 2 ^ j := by rw [Nat.pow_succ,Nat.mul_comm,Nat.mod_mul_right_div_self]
   rw [h1,h2,popK_mod]

theorem and_split (a y c m : Nat) (ha : a < 256) (hc : c < 256) : (a + 256 * y) &&& (c + 256 * m) = (a &&& c) + 256 * (y &&& m) := by
 have e1 : a + 256 * y = 2 ^ 8 * y + a := by omega
 have e2 : c + 256 * m = 2 ^ 8 * m + c := by omega
 have hac : a &&& c < 2 ^ 8 := Nat.and_lt_two_pow _ (by omega)
 rw [e1,e2,show (a &&& c) + 256 * (y &&& m) = 2 ^ 8 * (y &&& m) + (a &&& c) by omega]
 refine Nat.eq_of_testBit_eq fun i => ?_
 rw [Nat.testBit_and,Nat.testBit_two_pow_mul_add _ (by omega : a < 2 ^ 8),Nat.testBit_two_pow_mul_add _ (by omega : c < 2 ^ 8),Nat.testBit_two_pow_mul_add _ hac]
 by_cases hi : i < 8
 · rw [if_pos hi,if_pos hi,if_pos hi,Nat.testBit_and]
 · rw [if_neg hi,if_neg hi,if_neg hi,Nat.testBit_and]

def rep (c : Nat) : Nat→Nat
 | 0 => 0
 | n + 1 => c + 256 * rep c n
def s1 (m x : Nat) : Nat := (x / 2 &&& m) + (x &&& m)
def s2 (m x : Nat) : Nat := (x / 4 &&& m) + (x &&& m)
def s3 (m x : Nat) : Nat := (x / 16 + x) &&& m

theorem s1_byte (a b : Nat) (ha : a < 256) (hb : b < 2) : (a / 2 + 128 * b) &&& 85 = a / 2 &&& 85 := by
 have : ∀ b : Fin 2,∀ a : Fin 256,(a.1 / 2 + 128 * b.1) &&& 85 = a.1 / 2 &&& 85 := by decide +kernel
 exact this ⟨b,hb⟩ ⟨a,ha⟩
theorem s2_byte (a b : Nat) (ha : a < 256) (hb : b < 4) : (a / 4 + 64 * b) &&& 51 = a / 4 &&& 51 := by
 have : ∀ b : Fin 4,∀ a : Fin 256,(a.1 / 4 + 64 * b.1) &&& 51 = a.1 / 4 &&& 51 := by decide +kernel
 exact this ⟨b,hb⟩ ⟨a,ha⟩
theorem s1_step (n a y : Nat) (ha : a < 256) : s1 (rep 85 (n + 1)) (a + 256 * y) = s1 85 a + 256 * s1 (rep 85 n) y := by
 have h1 : (a + 256 * y) / 2 = (a / 2 + 128 * (y % 2)) + 256 * (y / 2) := by omega
 simp only [s1,rep]
 rw [h1,and_split _ _ _ _ (by omega) (by omega),and_split _ _ _ _ ha (by omega),s1_byte a _ ha (Nat.mod_lt _ (by omega))]
 omega
theorem s2_step (n a y : Nat) (ha : a < 256) : s2 (rep 51 (n + 1)) (a + 256 * y) = s2 51 a + 256 * s2 (rep 51 n) y := by
 have h1 : (a + 256 * y) / 4 = (a / 4 + 64 * (y % 4)) + 256 * (y / 4) := by omega
 simp only [s2,rep]
 rw [h1,and_split _ _ _ _ (by omega) (by omega),and_split _ _ _ _ ha (by omega),s2_byte a _ ha (Nat.mod_lt _ (by omega))]
 omega
theorem bytes_facts : ∀ a : Fin 256,s1 85 a.1 < 256∧s2 51 (s1 85 a.1) < 256∧s2 51 (s1 85 a.1) % 16≤4∧s2 51 (s1 85 a.1) / 16≤4∧s3 15 (s2 51 (s1 85 a.1)) = popK 8 a.1∧popK 8 a.1≤8 := by decide +kernel
theorem s3_step (n a y : Nat) (ha : a % 16≤4) (ha' : a / 16≤4) (hy : y % 16≤4) : s3 (rep 15 (n + 1)) (a + 256 * y) = s3 15 a + 256 * s3 (rep 15 n) y := by
 have h1 : (a + 256 * y) / 16 + (a + 256 * y) = (a / 16 + a + 16 * (y % 16)) + 256 * (y / 16 + y) := by omega
 simp only [s3,rep]
 rw [h1,and_split _ _ _ _ (by omega) (by omega)]
 congr 1
 rw [show (15 : Nat) = 2 ^ 4 - 1 from rfl,Nat.and_two_pow_sub_one_eq_mod,Nat.and_two_pow_sub_one_eq_mod]
 omega

def pops : Nat→Nat→Nat
 | 0,_ => 0
 | n + 1,x => popK 8 (x % 256) + 256 * pops n (x / 256)
theorem s123 : ∀ (n x : Nat),x < 256 ^ n→s2 (rep 51 n) (s1 (rep 85 n) x) % 16≤4∧s3 (rep 15 n) (s2 (rep 51 n) (s1 (rep 85 n) x)) = pops n x
 | 0, x, hx => by
   obtain rfl : x = 0 := by simpa using hx
   decide
 | n + 1, x, hx => by
   have hx' : x / 256 < 256 ^ n := by rw [Nat.pow_succ] at hx; omega
   obtain ⟨h1,h2⟩ := s123 n (x / 256) hx'
   have hm : x % 256 < 256 := Nat.mod_lt _ (by omega)
   obtain ⟨b1,b2,b3,b4,b5,_⟩ := bytes_facts ⟨x % 256,hm⟩
   simp only at b1 b2 b3 b4 b5
   have ex : x = x % 256 + 256 * (x / 256) := by omega
   have e1 : s1 (rep 85 (n + 1)) x = s1 85 (x % 256) + 256 * s1 (rep 85 n) (x / 256) := by
    conv => lhs; rw [ex]
    exact s1_step n _ _ hm
   rw [e1,s2_step n _ _ b1]
   refine ⟨by omega,?_⟩
   rw [s3_step n _ _ b3 b4 h1,b5,h2]
   rfl
def val8 : List Nat→Nat
 | [] => 0
 | a :: r => a + 256 * val8 r
theorem val8_div {a : Nat} {r : List Nat} (h : a < 256) : val8 (a :: r) / 256 = val8 r := by simp only [val8]; omega
theorem val8_div2 {a b : Nat} {r : List Nat} (h : a < 256) (h' : b < 256) : val8 (a :: b :: r) / 65536 = val8 r := by
 rw [show 65536 = 256 * 256 from rfl,← Nat.div_div_eq_div_mul,val8_div h,val8_div h']
theorem val8_div4 {a b c d : Nat} {r : List Nat} (h : a < 256) (h' : b < 256) (h2 : c < 256) (h3 : d < 256) : val8 (a :: b :: c :: d :: r) / 4294967296 = val8 r := by
 rw [show 4294967296 = 65536 * 65536 from rfl,← Nat.div_div_eq_div_mul,val8_div2 h h',val8_div2 h2 h3]
theorem fold1 {a b c d e f g i : Nat} (ha : a≤8) : val8 [a,b,c,d,e,f,g,i] + val8 [a,b,c,d,e,f,g,i] / 256 = val8 [a + b,b + c,c + d,d + e,e + f,f + g,g + i,i] := by
 rw [val8_div (by omega)]; simp only [val8]; omega
theorem fold2 {a b c d e f g i : Nat} (ha : a≤16) (hb : b≤16) : val8 [a,b,c,d,e,f,g,i] + val8 [a,b,c,d,e,f,g,i] / 65536 = val8 [a + c,b + d,c + e,d + f,e + g,f + i,g,i] := by
 rw [val8_div2 (by omega) (by omega)]; simp only [val8]; omega
theorem fold4 {a b c d e f g i : Nat} (ha : a≤32) (hb : b≤32) (hc : c≤32) (hd : d≤32) : val8 [a,b,c,d,e,f,g,i] + val8 [a,b,c,d,e,f,g,i] / 4294967296 = val8 [a + e,b + f,c + g,d + i,e,f,g,i] := by
 rw [val8_div4 (by omega) (by omega) (by omega) (by omega)]; simp only [val8]; omega
theorem val8_cons {a m B : Nat} {r : List Nat} (h : a≤m) (hr : val8 r≤B) : val8 (a :: r)≤m + 256 * B := by simp only [val8]; omega
theorem val8_bound {a b c d e f g i : Nat} (h1 : a≤64) (h2 : b≤64) (h3 : c≤64) (h4 : d≤64) (h5 : e≤64) (h6 : f≤64) (h7 : g≤64) (h8 : i≤64) : val8 [a,b,c,d,e,f,g,i] < 9223372036854775808 :=
 Nat.lt_of_le_of_lt (val8_cons h1 (val8_cons h2 (val8_cons h3 (val8_cons h4 (val8_cons h5 (val8_cons h6 (val8_cons h7 (val8_cons h8 (Nat.le_refl _))))))))) (by decide)

def byte (x i : Nat) : Nat := popK 8 (x / 256 ^ i % 256)
theorem byte_le (x i : Nat) : byte x i≤8 := by
 obtain ⟨_,_,_,_,_,b⟩ := bytes_facts ⟨x / 256 ^ i % 256,Nat.mod_lt _ (by omega)⟩
 exact b
theorem pops_val (x : Nat) : pops 8 x = val8 [byte x 0,byte x 1,byte x 2,byte x 3,byte x 4,byte x 5,byte x 6,byte x 7] := by
 simp only [pops,val8,byte,Nat.div_div_eq_div_mul]
 simp only [Nat.reduceMul,Nat.reducePow,Nat.pow_zero,Nat.div_one]
theorem popK_bytes (x : Nat) : popK 64 x = byte x 0 + byte x 1 + byte x 2 + byte x 3 + byte x 4 + byte x 5 + byte x 6 + byte x 7 := by
 have h : ∀ n y,popK (8 + n) y = popK 8 (y % 256) + popK n (y / 256) := fun n y => by
  rw [popK_add,show (256 : Nat) = 2 ^ 8 from rfl,popK_mod]
 rw [show 64 = 8 + (8 + (8 + (8 + (8 + (8 + (8 + (8 + 0))))))) from rfl]
 simp only [h,Nat.div_div_eq_div_mul]
 simp only [byte,Nat.reduceMul,Nat.reducePow,Nat.pow_zero,Nat.div_one]
 simp only [popK]
 omega
theorem fold_all (x : Nat) : ∃ y z u : Nat,pops 8 x + pops 8 x / 256 = y∧y + y / 65536 = z∧z + z / 4294967296 = u∧y < 9223372036854775808∧z < 9223372036854775808∧u < 9223372036854775808∧u % 128 = popK 64 x := by
 have h0 := byte_le x 0
 have h1 := byte_le x 1
 have h2 := byte_le x 2
 have h3 := byte_le x 3
 have h4 := byte_le x 4
 have h5 := byte_le x 5
 have h6 := byte_le x 6
 have h7 := byte_le x 7
 rw [popK_bytes,pops_val]
 generalize byte x 0 = a at *
 generalize byte x 1 = b at *
 generalize byte x 2 = c at *
 generalize byte x 3 = d at *
 generalize byte x 4 = e at *
 generalize byte x 5 = f at *
 generalize byte x 6 = g at *
 generalize byte x 7 = i at *
 refine ⟨_,_,_,rfl,rfl,rfl,?_⟩
 rw [fold1 h0,fold2 (by omega) (by omega),fold4 (by omega) (by omega) (by omega) (by omega)]
 refine ⟨?_,?_,?_,?_⟩
 · exact val8_bound (by omega) (by omega) (by omega) (by omega) (by omega) (by omega) (by omega) (by omega)
 · exact val8_bound (by omega) (by omega) (by omega) (by omega) (by omega) (by omega) (by omega) (by omega)
 · exact val8_bound (by omega) (by omega) (by omega) (by omega) (by omega) (by omega) (by omega) (by omega)
 · simp only [val8]; omega

theorem rep85 : rep 85 8 = 6148914691236517205 := rfl
theorem rep51 : rep 51 8 = 3689348814741910323 := rfl
theorem w64 (k : Nat) (h : k < 18446744073709551616) : IntKind.u64.wrap (k : Int) = k := IntWalk.u64_in _ ⟨by omega,by omega⟩
theorem step1 (x : Nat) (hx : x < 18446744073709551616) : IntKind.u64.wrap (bits .and .u64 (Int.fdiv (x : Int) (2 ^ (min (1 : Int).toNat IntKind.u64.bits))) 6148914691236517205 + bits .and .u64 (x : Int) 6148914691236517205) = ((s1 (rep 85 8) x : Nat) : Int)∧s1 (rep 85 8) x < 18446744073709551616 := by
 have e1 : Int.fdiv (x : Int) (2 ^ (min (1 : Int).toNat IntKind.u64.bits)) = ((x / 2 : Nat) : Int) := fdiv_pow x 1
 have b1 := bits_and_u64_nat (x / 2) 6148914691236517205 (by omega) (by omega)
 have b2 := bits_and_u64_nat x 6148914691236517205 hx (by omega)
 have h1 : x / 2 &&& 6148914691236517205≤6148914691236517205 := Nat.and_le_right
 have h2 : x &&& 6148914691236517205≤6148914691236517205 := Nat.and_le_right
 have hlt : s1 (rep 85 8) x < 18446744073709551616 := by rw [rep85,s1]; omega
 refine ⟨?_,hlt⟩
 rw [e1]
 refine (congrArg IntKind.u64.wrap (congr (congrArg (· + ·) b1) b2)).trans ?_
 rw [← Int.natCast_add]
 exact w64 _ hlt
theorem step2 (x : Nat) (hx : x < 18446744073709551616) : IntKind.u64.wrap (bits .and .u64 (Int.fdiv (x : Int) (2 ^ (min (2 : Int).toNat IntKind.u64.bits))) 3689348814741910323 + bits .and .u64 (x : Int) 3689348814741910323) = ((s2 (rep 51 8) x : Nat) : Int)∧s2 (rep 51 8) x < 18446744073709551616 := by
 have e1 : Int.fdiv (x : Int) (2 ^ (min (2 : Int).toNat IntKind.u64.bits)) = ((x / 4 : Nat) : Int) := fdiv_pow x 2
 have b1 := bits_and_u64_nat (x / 4) 3689348814741910323 (by omega) (by omega)
 have b2 := bits_and_u64_nat x 3689348814741910323 hx (by omega)
 have h1 : x / 4 &&& 3689348814741910323≤3689348814741910323 := Nat.and_le_right
 have h2 : x &&& 3689348814741910323≤3689348814741910323 := Nat.and_le_right
 have hlt : s2 (rep 51 8) x < 18446744073709551616 := by rw [rep51,s2]; omega
 refine ⟨?_,hlt⟩
 rw [e1]
 refine (congrArg IntKind.u64.wrap (congr (congrArg (· + ·) b1) b2)).trans ?_
 rw [← Int.natCast_add]
 exact w64 _ hlt
theorem step3 (x : Nat) (hx : x < 9223372036854775808) : bits .and .u64 (IntKind.u64.wrap (Int.fdiv (x : Int) (2 ^ (min (4 : Int).toNat IntKind.u64.bits)) + (x : Int))) 1085102592571150095 = ((s3 (rep 15 8) x : Nat) : Int) := by
 have e1 : Int.fdiv (x : Int) (2 ^ (min (4 : Int).toNat IntKind.u64.bits)) = ((x / 16 : Nat) : Int) := fdiv_pow x 4
 rw [e1,← Int.natCast_add,w64 _ (by omega)]
 exact bits_and_u64_nat (x / 16 + x) 1085102592571150095 (by omega) (by omega)
theorem step45 (x k y : Nat) (kk : Int) (hk : min kk.toNat IntKind.u64.bits = k) (hy : x + x / 2 ^ k = y) (hlt : y < 9223372036854775808) : IntKind.u64.wrap ((x : Int) + Int.fdiv (x : Int) (2 ^ (min kk.toNat IntKind.u64.bits))) = ((y : Nat) : Int) := by
 rw [hk,fdiv_pow x k,← Int.natCast_add,hy]
 exact w64 _ (by omega)
theorem and127 (x : Nat) (hx : x < 9223372036854775808) : bits .and .i64 (IntKind.i64.wrap (x : Int)) 127 = ((x % 128 : Nat) : Int) := by
 have h1 : (BitVec.ofInt 64 (x : Int)).toNat = x := by
  rw [BitVec.ofInt_natCast,BitVec.toNat_ofNat]; exact Nat.mod_eq_of_lt (by omega)
 have h2 : (BitVec.ofInt 64 (127 : Int)).toNat = 127 := rfl
 rw [IntWalk.i64_in _ ⟨by omega,by omega⟩]
 show IntKind.i64.wrap ((BitVec.ofInt 64 (x : Int) &&& BitVec.ofInt 64 (127 : Int)).toNat : Int) = _
 rw [BitVec.toNat_and,h1,h2,show (127 : Nat) = 2 ^ 7 - 1 from rfl,Nat.and_two_pow_sub_one_eq_mod]
 exact IntWalk.i64_in _ ⟨by omega,by omega⟩

theorem ones_spec (x : Nat) (hx : x < 18446744073709551616) : Spec Tryz.prog 120 [.val (.int .u64 (x : Int))] (· = .val (.int .i64 (popK 64 x : Nat))) := by
 refine spec_intro ok120 (Nat.le_of_ble_eq_true rfl) fun C hC => ?_
 obtain ⟨a1,l1⟩ := step1 x hx
 obtain ⟨a2,l2⟩ := step2 _ l1
 obtain ⟨_,b3⟩ := s123 8 x (by rw [show (256 : Nat) ^ 8 = 18446744073709551616 from rfl]; exact hx)
 have l3 : s2 (rep 51 8) (s1 (rep 85 8) x) < 9223372036854775808 := by
  have h1 : s1 (rep 85 8) x / 4 &&& rep 51 8≤rep 51 8 := Nat.and_le_right
  have h2 : s1 (rep 85 8) x &&& rep 51 8≤rep 51 8 := Nat.and_le_right
  rw [s2]
  rw [rep51] at *
  omega
 have a3 := step3 _ l3
 rw [b3] at a3
 obtain ⟨y,z,u,f1,f2,f3,g1,g2,g3,g4⟩ := fold_all x
 have a4 := step45 (pops 8 x) 8 y 8 rfl f1 g1
 have a5 := step45 y 16 z 16 rfl f2 g2
 have a6 := step45 z 32 u 32 rfl f3 g3
 have a7 := and127 u g3
 rw [g4] at a7
 iterate 11 (first|refine st ?_|(apply B<;>intro hb<;>try cases hb))
 refine opsK_int rfl rfl rfl a1 ?_
 iterate 9 (first|refine st ?_|(apply B<;>intro hb<;>try cases hb))
 refine opsK_int rfl rfl rfl a2 ?_
 iterate 8 (first|refine st ?_|(apply B<;>intro hb<;>try cases hb))
 refine opsK_int rfl rfl rfl a3 ?_
 iterate 7 (first|refine st ?_|(apply B<;>intro hb<;>try cases hb))
 refine opsK_int rfl rfl rfl a4 ?_
 iterate 7 (first|refine st ?_|(apply B<;>intro hb<;>try cases hb))
 refine opsK_int rfl rfl rfl a5 ?_
 iterate 7 (first|refine st ?_|(apply B<;>intro hb<;>try cases hb))
 refine opsK_int rfl rfl rfl a6 ?_
 iterate 6 (first|refine st ?_|(apply B<;>intro hb<;>try cases hb))
 refine opsK_int rfl rfl rfl a7 ?_
 (refine go ?_;repeat' (apply B<;>intro hb<;>try cases hb))
 exact ret_ok rfl trivial rfl
end Go.Proofs.YtcoehdmpjflmlaaGreatDoor

namespace Go.Proofs.YtcoehdmpjflmlaaGreatDoor
open Go.RowKit
set_option linter.unusedVariables false
attribute [local irreducible] aw opsK dK

inductive Fm where
 | mk (op n : Int) (roles : List Int) (args : List Fm)
def Fm.op : Fm→Int | .mk op _ _ _ => op
def Fm.n : Fm→Int | .mk _ n _ _ => n
def Fm.roles : Fm→List Int | .mk _ _ r _ => r
def Fm.args : Fm→List Fm | .mk _ _ _ a => a

mutual
def Fm.depth : Fm→Nat
 | .mk _ _ _ args => depthL args + 1
def depthL : List Fm→Nat
 | [] => 0
 | a :: r => max a.depth (depthL r)
end
mutual
def Fm.size : Fm→Nat
 | .mk _ _ _ args => sizeL args + 1
def sizeL : List Fm→Nat
 | [] => 0
 | a :: r => a.size + sizeL r
end
theorem Fm.depth_eq (f : Fm) : f.depth = depthL f.args + 1 := by cases f; simp [Fm.depth,Fm.args]
theorem Fm.size_eq (f : Fm) : f.size = sizeL f.args + 1 := by cases f; simp [Fm.size,Fm.args]
theorem depthL_append (l m : List Fm) : depthL (l ++ m) = max (depthL l) (depthL m) := by
 induction l with
 | nil => simp [depthL]
 | cons a r ih => simp only [List.cons_append,depthL,ih]; omega
theorem sizeL_append (l m : List Fm) : sizeL (l ++ m) = sizeL l + sizeL m := by
 induction l with
 | nil => simp [sizeL]
 | cons a r ih => simp only [List.cons_append,sizeL,ih]; omega
theorem depthL_take {l : List Fm} {i : Nat} (hi : i < l.length) : depthL (l.take (i + 1)) = max (depthL (l.take i)) l[i].depth := by
 have e : l.take (i + 1) = l.take i ++ [l[i]] := by rw [List.take_add_one,List.getElem?_eq_getElem hi]; rfl
 rw [e,depthL_append]
 simp only [depthL]
 omega
theorem sizeL_take {l : List Fm} {i : Nat} (hi : i < l.length) : sizeL (l.take (i + 1)) = sizeL (l.take i) + l[i].size := by
 have e : l.take (i + 1) = l.take i ++ [l[i]] := by rw [List.take_add_one,List.getElem?_eq_getElem hi]; rfl
 rw [e,sizeL_append]
 simp only [sizeL]
 omega
theorem depthL_mem {l : List Fm} {i : Nat} (hi : i < l.length) : l[i].depth≤depthL l := by
 have := depthL_take hi
 have h2 := depthL_append (l.take (i + 1)) (l.drop (i + 1))
 rw [List.take_append_drop] at h2
 omega
theorem sizeL_le (l : List Fm) (i : Nat) : sizeL (l.take i)≤sizeL l := by
 have h2 := sizeL_append (l.take i) (l.drop i)
 rw [List.take_append_drop] at h2
 omega
theorem sizeL_mem {l : List Fm} {i : Nat} (hi : i < l.length) : l[i].size≤sizeL l := by
 have := sizeL_take hi
 have := sizeL_le l (i + 1)
 omega
theorem length_le_size (l : List Fm) : l.length≤sizeL l := by
 induction l with
 | nil => simp [sizeL]
 | cons a r ih => simp only [List.length_cons,sizeL]; have := a.size_eq; omega

mutual
def cellsK (k : IntKind) : Fm→List PV
 | .mk op n roles args => [.val (.int k op),.val (.int .i64 n),.vec (nums roles) false,.vec (cellsKL k args) false]
def cellsKL (k : IntKind) : List Fm→List (List PV)
 | [] => []
 | a :: r => cellsK k a :: cellsKL k r
end
def fC (k : IntKind) (f : Fm) : List PV := [.val (.int k f.op),.val (.int .i64 f.n),.vec (nums f.roles) false,.vec (f.args.map (cellsK k)) false]
theorem cellsKL_eq (k : IntKind) (l : List Fm) : cellsKL k l = l.map (cellsK k) := by
 induction l with
 | nil => rfl
 | cons a r ih => simp [cellsKL,ih]
theorem cellsK_eq (k : IntKind) (f : Fm) : cellsK k f = fC k f := by
 cases f; simp [cellsK,fC,cellsKL_eq,Fm.op,Fm.n,Fm.roles,Fm.args]
theorem cellsK_length (k : IntKind) (f : Fm) : (cellsK k f).length = 4 := by rw [cellsK_eq]; rfl
mutual
theorem cellsK_pure (k : IntKind) : ∀ f : Fm,pureL (cellsK k f)
 | .mk op n roles args => ⟨trivial,trivial,nums_pure roles,cellsKL_pure k args,trivial⟩
theorem cellsKL_pure (k : IntKind) : ∀ l : List Fm,pureLL (cellsKL k l)
 | [] => trivial
 | a :: r => ⟨cellsK_pure k a,cellsKL_pure k r⟩
end
theorem fC_pure (k : IntKind) (f : Fm) : pureL (fC k f) := cellsK_eq k f ▸ cellsK_pure k f
theorem fArgs_pure (k : IntKind) (l : List Fm) : pureLL (l.map (cellsK k)) := cellsKL_eq k l ▸ cellsKL_pure k l
theorem fArgs_inn (k : IntKind) (l : List Fm) (D : Nat→Prop) : innLL D (l.map (cellsK k)) := innLL_mono (fun _ h => h.elim) _ (fArgs_pure k l)
theorem fC_inn (k : IntKind) (f : Fm) (D : Nat→Prop) : innL D (fC k f) := innL_mono (fun _ h => h.elim) _ (fC_pure k f)

theorem flag_spec (b : Bool) : Spec Tryz.prog 89 [.val (.bool b)] (· = .val (.int .i64 (if b then 1 else 0))) := by
 refine spec_intro ok89 (Nat.le_of_ble_eq_true rfl) fun C hC => ?_
 (refine go ?_;repeat' (apply B<;>intro hb<;>try cases hb))
 all_goals exact ret_ok rfl trivial rfl

def operandsM (op : Int) : Int := if 8≤op then 2 else if op = 7 then 1 else 0
def leastM (op : Int) : Int := if op = 4 ∨ op = 6 then 1 else if op = 5 then 1 else 0
def mostM (op : Int) : Int := if op = 4 ∨ op = 6 then 1 else if op = 5 then 8 else 0
theorem arity_spec (op : Int) : Spec Tryz.prog 132 [.val (.int .u8 op)] (· = .tup [.val (.int .i64 (operandsM op)),.val (.int .i64 (leastM op)),.val (.int .i64 (mostM op))]) := by
 refine spec_intro ok132 (Nat.le_of_ble_eq_true rfl) fun C hC => ?_
 (refine go ?_;repeat' (apply B<;>intro hb<;>try cases hb))
 all_goals refine ret_ok rfl ⟨trivial,trivial,trivial,trivial⟩ ?_
 all_goals simp_all [operandsM,leastM,mostM,pvOf]
 all_goals try omega
def typeM (op : Int) : Int := if op = 1 ∨ op = 5 ∨ op = 6 ∨ op = 16 then 2 else 1
theorem result_spec (op : Int) : Spec Tryz.prog 88 [.val (.int .u8 op)] (· = .val (.int .u8 (typeM op))) := by
 refine spec_intro ok88 (Nat.le_of_ble_eq_true rfl) fun C hC => ?_
 (refine go ?_;repeat' (apply B<;>intro hb<;>try cases hb))
 all_goals refine ret_ok rfl trivial ?_; simp_all [typeM,pvOf]
theorem measure_spec : ∀ (d : Nat) (f : Fm),f.depth≤d→d≤1000→f.size≤1099511627776→Spec Tryz.prog 109 [.agg (fC .u8 f)] (· = .tup [.val (.int .i64 f.depth),.val (.int .i64 f.size)]) := by
 intro d
 induction d with
 | zero => intro f hf; rw [Fm.depth_eq] at hf; omega
 | succ d ih =>
   intro f hf hd hsz
   refine spec_intro ok109 (Nat.le_of_ble_eq_true rfl) fun C hC => ?_
   refine aw_seq ?_
   refine aw_region ?_
   refine opsK_ofAlt rfl rfl rfl ?_
   (refine go ?_;repeat' (apply B<;>intro hb<;>try cases hb))
   have hll : (f.args.map (cellsK .u8)).length = f.args.length := by simp
   have hfs := f.size_eq
   have hfd := f.depth_eq
   have hlm := length_le_size f.args
   refine aw_loopH hC (fun i => i≤f.args.length) (fun i => f.args.length - i) 0 (fun i => [(2,.val (.int .i64 (depthL (f.args.take i)))),(3,.val (.int .i64 (sizeL (f.args.take i)))),(9,.vec (f.args.map (cellsK .u8)) false),(10,.val (.int .i64 f.args.length)),(11,.val (.int .i64 (i : Int)))]) (fun _=>[]) (Nat.le_refl _) 0 (Nat.zero_le _)
    ⟨⟨rfl,trivial⟩,⟨rfl,trivial⟩,⟨rfl,fArgs_inn _ _ _⟩,⟨by rw [← hll]; rfl,trivial⟩,⟨rfl,trivial⟩,trivial⟩ trivial ?_
   intro i hi
   have hinc : IntKind.i64.wrap ((i : Int) + 1) = ((i + 1 : Nat) : Int) := IntWalk.i64_in _ ⟨by omega,by omega⟩
   (refine go ?_;repeat' (apply B<;>intro hb<;>try cases hb))
   · have hil : i < f.args.length := by simpa using hb
     refine opsK_of (E_iaddr (xs := f.args) rfl rfl i rfl hil (cellsK_length _ _)) rfl rfl ?_
     rw [cellsK_eq]
     (refine go ?_;repeat' (apply B<;>intro hb<;>try cases hb))
     have hdl := depthL_mem hil
     have hsl := sizeL_mem hil
     have hsi := sizeL_le f.args (i + 1)
     have htk := sizeL_take hil
     refine opsK_eq (ih f.args[i] (by omega) (by omega) (by omega)) rfl rfl rfl ⟨fC_pure _ _,trivial⟩ rfl ?_
     (refine go ?_;repeat' (apply B<;>intro hb<;>try cases hb))
     refine ⟨i + 1,by omega,by omega,⟨⟨?_,trivial⟩,⟨?_,trivial⟩,⟨rfl,fArgs_inn _ _ _⟩,⟨rfl,trivial⟩,⟨by show some _ = some _; rw [hinc],trivial⟩,trivial⟩,trivial⟩
     · show some _ = some _
       rw [depthL_take hil]
       congr 3
       omega
     · show some _ = some _
       congr 3
       rw [IntWalk.i64_in _ ⟨by omega,by omega⟩]
       omega
   · have hil : i = f.args.length := by simp at hb; omega
     subst hil
     rw [List.take_length] at *
     refine ret_ok rfl ⟨trivial,trivial,trivial⟩ ?_
     rw [IntWalk.i64_in _ ⟨by omega,by omega⟩,IntWalk.i64_in _ ⟨by omega,by omega⟩,hfs,hfd]
     rfl

def wantM (op : Int) : Int := if op ≥ 11 then 2 else 1
mutual
def fitsM : Fm→Bool
 | .mk op _ _ args => fitsL (wantM op) args
def fitsL (w : Int) : List Fm→Bool
 | [] => true
 | a :: r => decide (typeM a.op = w) && fitsM a && fitsL w r
end
theorem fitsM_eq (f : Fm) : fitsM f = fitsL (wantM f.op) f.args := by cases f; simp [fitsM,Fm.op,Fm.args]
theorem fitsL_append (w : Int) (l m : List Fm) : fitsL w (l ++ m) = (fitsL w l && fitsL w m) := by
 induction l with
 | nil => simp [fitsL]
 | cons a r ih => simp only [List.cons_append,fitsL,ih,Bool.and_assoc]
theorem fitsL_take {w : Int} {l : List Fm} {i : Nat} (hi : i < l.length) : fitsL w (l.take (i + 1)) = (fitsL w (l.take i) && (decide (typeM l[i].op = w) && fitsM l[i])) := by
 have e : l.take (i + 1) = l.take i ++ [l[i]] := by rw [List.take_add_one,List.getElem?_eq_getElem hi]; rfl
 rw [e,fitsL_append]
 simp [fitsL]
theorem fitsL_bad {w : Int} {l : List Fm} {i : Nat} (hi : i < l.length) (h : (decide (typeM l[i].op = w) && fitsM l[i]) = false) : fitsL w l = false := by
 have h2 := fitsL_append w (l.take (i + 1)) (l.drop (i + 1))
 rw [List.take_append_drop,fitsL_take hi,h] at h2
 simpa using h2

theorem fits_spec : ∀ (d : Nat) (f : Fm),f.depth≤d→Spec Tryz.prog 87 [.agg (fC .u8 f)] (· = .val (.bool (fitsM f))) := by
 intro d
 induction d with
 | zero => intro f hf; rw [Fm.depth_eq] at hf; omega
 | succ d ih =>
   intro f hf
   have hll : (f.args.map (cellsK .u8)).length = f.args.length := by simp
   have hfd := f.depth_eq
   refine spec_intro ok87 (Nat.le_of_ble_eq_true rfl) fun C hC => ?_
   refine aw_seq ?_
   refine aw_region ?_
   refine opsK_ofAlt rfl rfl rfl ?_
   (refine go ?_;repeat' (apply B<;>intro hb<;>try cases hb))
   all_goals
    have hw : wantM f.op = (if f.op ≥ 11 then 2 else 1) := rfl
    have hop' := hb
    simp only [decide_eq_true_eq,decide_eq_false_iff_not] at hop'
    first | rw [if_pos hop'] at hw | rw [if_neg hop'] at hw
    clear hb hop'
    refine aw_len (k := 10) rfl fun hmax => ?_
    rw [hll] at hmax
    refine aw_loopH hC (fun i => i≤f.args.length∧fitsL (wantM f.op) (f.args.take i) = true) (fun i => f.args.length - i) 0 (fun i => [(3,.val (.int .u8 (wantM f.op))),(10,.vec (f.args.map (cellsK .u8)) false),(11,.val (.int .i64 f.args.length)),(12,.val (.int .i64 (i : Int)))]) (fun _=>[]) (Nat.le_refl _) 0 ⟨Nat.zero_le _,rfl⟩
     ⟨⟨by rw [hw]; rfl,trivial⟩,⟨rfl,fArgs_inn _ _ _⟩,⟨by rw [← hll]; rfl,trivial⟩,⟨rfl,trivial⟩,trivial⟩ trivial ?_
    rintro i ⟨hi,hfit⟩
    have hinc : IntKind.i64.wrap ((i : Int) + 1) = ((i + 1 : Nat) : Int) := IntWalk.i64_in _ ⟨by omega,by simp only [maxVec] at hmax; omega⟩
    (refine go ?_;repeat' (apply B<;>intro hb<;>try cases hb))
    · have hil : i < f.args.length := by simpa using hb
      refine opsK_of (E_iaddr (xs := f.args) rfl rfl i rfl hil (cellsK_length _ _)) rfl rfl ?_
      rw [cellsK_eq]
      (refine go ?_;repeat' (apply B<;>intro hb<;>try cases hb))
      have hdl := depthL_mem hil
      refine opsK_eq (result_spec f.args[i].op) rfl rfl rfl ⟨trivial,trivial⟩ rfl ?_
      (refine go ?_;repeat' (apply B<;>intro hb<;>try cases hb))
      · refine ret_ok rfl trivial ?_
        rw [fitsM_eq,fitsL_bad hil (by simp at hb; simp [hb])]
      · refine opsK_eq (ih f.args[i] (by omega)) rfl rfl rfl ⟨fC_pure _ _, trivial⟩ rfl ?_
        (refine go ?_;repeat' (apply B<;>intro hb<;>try cases hb))
        · refine ret_ok rfl trivial ?_
          rw [fitsM_eq,fitsL_bad hil (by simp at hb; simp [hb])]
        · refine ⟨i + 1, ⟨by omega, ?_⟩, by omega, ⟨⟨rfl, trivial⟩, ⟨rfl, fArgs_inn _ _ _⟩, ⟨rfl, trivial⟩, ⟨by show some _ = some _; rw [hinc], trivial⟩, trivial⟩, trivial⟩
          rename_i hne
          rw [fitsL_take hil,hfit]
          simp at hb hne
          simp [hb,hne]
    · have hil : i = f.args.length := by simp at hb; omega
      subst hil
      rw [List.take_length] at hfit
      exact ret_ok rfl trivial (by rw [fitsM_eq,hfit])

end Go.Proofs.YtcoehdmpjflmlaaGreatDoor

namespace Go.Proofs.YtcoehdmpjflmlaaGreatDoor
open Go.RowKit
set_option linter.unusedVariables false
attribute [local irreducible] aw opsK dK

def badArity (f : Fm) : Bool := decide (f.op < 1) || decide (f.op > 16) || decide ((f.args.length : Int)≠operandsM f.op)
def badForm (f : Fm) : Bool := (decide (f.op≠1) && decide (f.n≠0)) || decide ((f.roles.length : Int) < leastM f.op) || decide ((f.roles.length : Int) > mostM f.op)
def badN (f : Fm) : Bool := decide (f.n < 0) || decide (f.n > 999999)
def inRange (l : List Int) : Bool := l.all fun r => decide (1≤r) && decide (r≤63)
def nodeM (f : Fm) : Int := if badArity f then 1 else if badForm f then 6 else if badN f then 2 else if inRange f.roles then (if decide f.roles.Nodup then 0 else 5) else 2
def badKind (k op : Int) : Bool := (decide (k = 3) && (decide (op = 4) || decide (op = 5))) || (decide (k≠0) && decide (k≠3) && decide (op = 6))
def nodeK (k : Int) (f : Fm) : Int := if nodeM f = 0 then (if badKind k f.op then 10 else 0) else nodeM f

theorem nums_length (l : List Int) : (nums l).length = l.length := by simp [nums]
theorem inRange_bad {l : List Int} {i : Nat} (hi : i < l.length) (h : (decide (1≤l[i]) && decide (l[i]≤63)) = false) : inRange l = false := by
 unfold inRange
 rw [List.all_eq_false]
 exact ⟨l[i],List.getElem_mem _,by simpa using h⟩
theorem inRange_take {l : List Int} {i : Nat} (hi : i < l.length) : inRange (l.take (i + 1)) = (inRange (l.take i) && (decide (1≤l[i]) && decide (l[i]≤63))) := by
 have e : l.take (i + 1) = l.take i ++ [l[i]] := by rw [List.take_add_one,List.getElem?_eq_getElem hi]; rfl
 rw [e,inRange,List.all_append]
 simp [inRange]
end Go.Proofs.YtcoehdmpjflmlaaGreatDoor

namespace Go.Proofs.YtcoehdmpjflmlaaGreatDoor
open Go.RowKit
set_option linter.unusedVariables false
attribute [local irreducible] aw opsK dK

mutual
def insideM (k : Int) : Fm→Int
 | .mk op n roles args => if nodeK k (.mk op n roles args) = 0 then insideL k args else nodeK k (.mk op n roles args)
def insideL (k : Int) : List Fm→Int
 | [] => 0
 | a :: r => if insideM k a = 0 then insideL k r else insideM k a
end
theorem insideM_eq (k : Int) (f : Fm) : insideM k f = if nodeK k f = 0 then insideL k f.args else nodeK k f := by cases f; simp [insideM,Fm.args]
theorem insideL_append (k : Int) (l m : List Fm) : insideL k (l ++ m) = if insideL k l = 0 then insideL k m else insideL k l := by
 induction l with
 | nil => simp [insideL]
 | cons a r ih =>
   simp only [List.cons_append,insideL,ih]
   split
   · rfl
   · rfl
theorem insideL_take {k : Int} {l : List Fm} {i : Nat} (hi : i < l.length) (h : insideL k (l.take i) = 0) : insideL k (l.take (i + 1)) = insideM k l[i] := by
 have e : l.take (i + 1) = l.take i ++ [l[i]] := by rw [List.take_add_one,List.getElem?_eq_getElem hi]; rfl
 rw [e,insideL_append,if_pos h]
 simp only [insideL]
 split
 · rename_i h; rw [h]
 · rfl
theorem insideL_bad {k : Int} {l : List Fm} {i : Nat} (hi : i < l.length) (h : insideL k (l.take i) = 0) (hb : insideM k l[i]≠0) : insideL k l = insideM k l[i] := by
 have h2 := insideL_append k (l.take (i + 1)) (l.drop (i + 1))
 rw [List.take_append_drop,insideL_take hi h,if_neg hb] at h2
 exact h2

def typeOfT (f : Fm) : Int := if f.depth > 10 ∨ f.size > 200 then 0 else if insideM 0 f = 0 then (if fitsM f then typeM f.op else 0) else 0
def typeOfE (f : Fm) : Int := if f.depth > 10 ∨ f.size > 200 then 3 else if insideM 0 f = 0 then (if fitsM f then 0 else 10) else insideM 0 f

end Go.Proofs.YtcoehdmpjflmlaaGreatDoor
