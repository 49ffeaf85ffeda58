/-
  Merged from the texts that this claim's theorem needs, part 3 of 6. No statement of the seat is proved here.
-/
import Derived.IntWalk
import Derived.KernelRfl
import Derived.Test.YtojlnagiaibgkaaGreatDoorChecked
import Derived.WalkSmall
import Derived.Test.YtojlnagiaibgkaaGreatDoorMq1
set_option linter.unusedSimpArgs false
set_option linter.unusedVariables false
set_option linter.unusedSectionVars false
namespace Go.Proofs.YtojlnagiaibgkaaGreatDoor
set_option maxRecDepth 100000
theorem mixed : Tryz.prog.follows .mixedOrders = true := by kernel_rfl
abbrev tT (n : Nat) : Operand := .tmp n
abbrev oO (d : Nat) (p : AOp) : AOper := ⟨some d, p, none⟩
abbrev oT (g d : Nat) (p : AOp) : AOper := ⟨some d, p, some (g, true)⟩
abbrev oF (g d : Nat) (p : AOp) : AOper := ⟨some d, p, some (g, false)⟩
abbrev oM (d a : Nat) : AOper := ⟨some d, .mov (.tmp a), none⟩
abbrev nS : Value := .slice none 0 0
abbrev kI (n : Int) : Operand := .const (.int .i64 n)
abbrev kT : Operand := .const (.bool true)
abbrev kF : Operand := .const (.bool false)
abbrev kC (f : FuncId) (l : List Operand) : AOp := .call (.func f) l
abbrev sQ (x y : ACode) : ACode := .seq x y
def ir3 : ACode := (sQ (.region [oO 2 (.box (tT 0)),oO 4 (.mov kF)]) (sQ (sQ (.region [oO 8 (kC 4 []),oO 9 (.una .not (tT 8))]) (.cond (tT 9) (sQ (.region [oO 4 (.mov kF)]) .ret) .skip)) (sQ (.region [oO 10 (.load true 3 (tT 2)),
 oO 11 (kC 5 [(tT 10)]),oO 5 (.alloc [(.int .u64 0),(.int .u64 0)]),⟨none,.store 2 (tT 5) (tT 11),none⟩]) (sQ (.region [oM 12 1,oO 13 (.bin .rem .num (tT 12) (.const (.int .u8 8))),oO 14 (.conv .i64 (tT 13)),
 oO 15 (kC 6 [(tT 14)]),oM 6 15]) (sQ (.region [oM 16 6,oO 17 (kC 7 [(tT 16)]),oM 7 17]) (sQ (.draw [⟨0,oM 18 7,0,1,false⟩,⟨1,oO 19 (.bin .neq .ptr (tT 18) (.const (.pointer none))),1,1,false⟩,⟨2,oM 20 19,
 3,1,false⟩,⟨3,oT 20 21 (.load true 2 (tT 5)),7,0,false⟩,⟨4,oT 20 22 (kC 9 [(tT 21)]),15,0,false⟩,⟨5,oT 20 23 (.mov (tT 7)),7,0,false⟩,⟨6,oT 20 24 (kC 8 [(tT 22),(tT 23)]),63,0,false⟩,⟨7,oT 20 25 (.load true 2 (tT 5)),
 7,0,false⟩,⟨8,oT 20 26 (.mov (tT 6)),7,0,false⟩,⟨9,oT 20 27 (kC 10 [(tT 25),(tT 26)]),511,1,false⟩,⟨10,oT 20 28 (.bin .eql .num (tT 24) (tT 27)),1023,1,false⟩,⟨11,oO 29 (.pick (tT 20) (tT 28) kF),2047,
 1,false⟩,⟨12,oM 30 29,4095,1,false⟩,⟨13,oT 30 31 (.load true 2 (tT 5)),8191,0,false⟩,⟨14,oT 30 32 (kC 9 [(tT 31)]),16383,0,false⟩,⟨15,oT 30 33 (kC 8 [(tT 32),(.const (.pointer none))]),32767,0,false⟩,⟨16,
 oT 30 34 (.load true 2 (tT 5)),8191,0,false⟩,⟨17,oT 30 35 (kC 10 [(tT 34),(.const nS)]),131071,1,false⟩,⟨18,oT 30 36 (.bin .eql .num (tT 33) (tT 35)),262143,1,false⟩,⟨19,oO 37 (.pick (tT 30) (tT 36) kF),
 524287,1,false⟩,⟨20,oM 4 37,1048575,1,false⟩]) .ret))))))
theorem ok3 : FnOk Tryz.prog 3 38 ir3 [.tmp 4] := Z8 mixed Tryz.func3 (by kernel_rfl) Tryz.ntmps3 (by kernel_rfl) (by kernel_rfl)
def ir4 : ACode := (sQ (.region [oO 0 (.mov kF)]) (sQ (.region [oO 17 (.bslice [(.int .i64 0)] 3 [(0,(kI 1)),(1,(kI 2)),(2,(kI 3))]),oO 18 (.build [(.int .u8 0),(.int .i64 0),nS,nS] [(0,1,(.const (.int .u8 5))),
 (2,1,(tT 17))]),oO 19 (.build [(.int .u8 0),(.int .i64 0),nS,nS] [(0,1,(.const (.int .u8 1))),(1,1,(kI 1))]),oO 20 (.bslice [(.int .u8 0),(.int .i64 0),nS,nS] 2 [(0,(tT 18)),(1,(tT 19))]),oO 21 (.build [(.int .u8 0),
 (.int .i64 0),nS,nS] [(0,1,(.const (.int .u8 11))),(3,1,(tT 20))]),oO 1 (.alloc [(.int .u8 0),(.int .i64 0),nS,nS]),⟨none,.store 4 (tT 1) (tT 21),none⟩]) (sQ (.region [oO 22 (.bslice [(.int .i64 0)] 1 [(0,
 (kI 1))]),oO 23 (.build [(.int .u8 0),(.int .i64 0),nS,nS] [(0,1,(.const (.int .u8 4))),(2,1,(tT 22))]),oO 24 (.bslice [(.int .i64 0)] 1 [(0,(kI 2))]),oO 25 (.build [(.int .u8 0),(.int .i64 0),nS,nS] [(0,
 1,(.const (.int .u8 4))),(2,1,(tT 24))]),oO 26 (.bslice [(.int .u8 0),(.int .i64 0),nS,nS] 2 [(0,(tT 23)),(1,(tT 25))]),oO 27 (.build [(.int .u8 0),(.int .i64 0),nS,nS] [(0,1,(.const (.int .u8 10))),(3,
 1,(tT 26))]),oO 2 (.alloc [(.int .u8 0),(.int .i64 0),nS,nS]),⟨none,.store 4 (tT 2) (tT 27),none⟩]) (sQ (.region [oO 29 (kC 11 []),oO 30 (kC 12 [(tT 29),(kI 4),(kI 1)]),oM 28 30,oO 31 (.extract (tT 28) 0),
 oO 32 (.extract (tT 28) 1),oM 3 31,oM 4 32]) (sQ (.region [oM 34 3,oO 35 (kC 12 [(tT 34),(kI 4),(kI 2)]),oM 33 35,oO 36 (.extract (tT 33) 0),oO 37 (.extract (tT 33) 1),oM 5 36,oM 6 37]) (sQ (.region [oO 39 (kC 11 []),
 oO 40 (kC 12 [(tT 39),(kI 4),(kI 2)]),oM 38 40,oO 41 (.extract (tT 38) 0),oO 42 (.extract (tT 38) 1),oM 7 41,oM 8 42]) (sQ (sQ (.region [oM 43 4,oO 44 (.bin .neq .num (tT 43) (kI 0)),oM 45 44,oF 45 46 (.mov (tT 6)),
 oF 45 47 (.bin .neq .num (tT 46) (kI 0)),oO 48 (.pick (tT 45) kT (tT 47)),oM 49 48,oF 49 50 (.mov (tT 8)),oF 49 51 (.bin .neq .num (tT 50) (kI 0)),oO 52 (.pick (tT 49) kT (tT 51))]) (.cond (tT 52) (sQ (.region [oO 0 (.mov kF)]) .ret) .skip)) (sQ (.draw [⟨0,
 oO 54 (.load true 4 (tT 1)),0,1,false⟩,⟨1,oO 55 (.bslice [(.int .i64 0)] 3 [(0,(kI 1)),(1,(kI 2)),(2,(kI 3))]),0,0,false⟩,⟨2,oO 56 (kC 14 [(tT 55)]),2,0,false⟩,⟨3,oO 57 (kC 13 [(tT 54),(tT 56)]),7,1,false⟩,
 ⟨4,oM 53 57,15,1,false⟩,⟨5,oO 58 (.extract (tT 53) 0),31,1,false⟩,⟨6,oO 59 (.extract (tT 53) 1),31,0,false⟩,⟨7,oO 9 (.alloc [nS,nS]),0,0,false⟩,⟨8,⟨none,.store 2 (tT 9) (tT 58),none⟩,191,1,false⟩,⟨9,oM 10 59,
 511,1,false⟩]) (sQ (.draw [⟨0,oO 61 (.load true 4 (tT 2)),0,1,false⟩,⟨1,oO 62 (.bslice [(.int .i64 0)] 2 [(0,(kI 1)),(1,(kI 3))]),0,0,false⟩,⟨2,oO 63 (kC 14 [(tT 62)]),2,0,false⟩,⟨3,oO 64 (kC 13 [(tT 61),
 (tT 63)]),7,1,false⟩,⟨4,oM 60 64,15,1,false⟩,⟨5,oO 65 (.extract (tT 60) 0),31,1,false⟩,⟨6,oO 66 (.extract (tT 60) 1),31,0,false⟩,⟨7,oO 11 (.alloc [nS,nS]),0,0,false⟩,⟨8,⟨none,.store 2 (tT 11) (tT 65),none⟩,
 191,1,false⟩,⟨9,oM 12 66,511,1,false⟩]) (sQ (.draw [⟨0,oO 68 (.load true 4 (tT 1)),0,1,false⟩,⟨1,oO 69 (.bslice [(.int .i64 0)] 2 [(0,(kI 3)),(1,(kI 4))]),0,0,false⟩,⟨2,oO 70 (kC 14 [(tT 69)]),2,0,false⟩,
 ⟨3,oM 71 5,0,0,false⟩,⟨4,oO 72 (kC 15 [(tT 68),(tT 70),(tT 71)]),15,1,false⟩,⟨5,oM 67 72,31,1,false⟩,⟨6,oO 73 (.extract (tT 67) 0),63,1,false⟩,⟨7,oO 74 (.extract (tT 67) 1),63,1,false⟩,⟨8,oM 13 73,127,
 1,false⟩,⟨9,oM 14 74,511,1,false⟩]) (sQ (.draw [⟨0,oO 76 (.load true 4 (tT 2)),0,1,false⟩,⟨1,oO 77 (.bslice [(.int .i64 0)] 2 [(0,(kI 1)),(1,(kI 3))]),0,0,false⟩,⟨2,oO 78 (kC 14 [(tT 77)]),2,0,false⟩,⟨3,
 oO 79 (.bslice [(.int .i64 0)] 2 [(0,(kI 2)),(1,(kI 4))]),0,0,false⟩,⟨4,oO 80 (kC 14 [(tT 79)]),14,0,false⟩,⟨5,oM 81 7,0,0,false⟩,⟨6,oO 82 (kC 16 [(tT 76),(tT 78),(tT 80),(tT 81)]),63,1,false⟩,⟨7,oM 75 82,
 127,1,false⟩,⟨8,oO 83 (.extract (tT 75) 0),255,1,false⟩,⟨9,oO 84 (.extract (tT 75) 1),255,1,false⟩,⟨10,oM 15 83,511,1,false⟩,⟨11,oM 16 84,2047,1,false⟩]) (sQ (.region [oM 85 10,oM 86 85,oT 86 87 (.mov (tT 12)),
 oO 88 (.pick (tT 86) (tT 87) kF),oM 89 88,oT 89 90 (.mov (tT 14)),oT 89 91 (.bin .eql .num (tT 90) (kI 0)),oO 92 (.pick (tT 89) (tT 91) kF),oM 93 92,oT 93 94 (.mov (tT 16)),oT 93 95 (.bin .eql .num (tT 94) (kI 0)),
 oO 96 (.pick (tT 93) (tT 95) kF),oM 97 96,oT 97 98 (.load true 2 (tT 9)),oT 97 99 (kC 17 [(tT 98)]),⟨(some 100),.bin .eql .num (tT 99) (.const (.string ⟨#[49,32,50]⟩)),(some (97,true))⟩,oO 101 (.pick (tT 97) (tT 100) kF),
 oM 102 101,oT 102 103 (.load true 2 (tT 11)),oT 102 104 (kC 8 [(tT 103),(.const (.pointer none))]),⟨(some 105),.bin .eql .num (tT 104) (.const (.string ⟨#[104,97,115,32,49,44,32,108,97,99,107,115,32,50]⟩)),
 (some (102,true))⟩,oO 106 (.pick (tT 102) (tT 105) kF),oM 107 106,oT 107 108 (.mov (tT 13)),oT 107 109 (.len (tT 108)),oT 107 110 (.bin .eql .num (tT 109) (kI 1)),oO 111 (.pick (tT 107) (tT 110) kF),oM 112 111,
 oT 112 113 (.mov (tT 13)),oT 112 114 (.iaddr 1 (tT 113) (kI 0)),oT 112 115 (.load true 1 (tT 114)),oT 112 116 (kC 18 [(tT 115)]),⟨(some 117),.bin .eql .num (tT 116) (.const (.string ⟨#[123,52,125]⟩)),(some (112,
 true))⟩,oO 118 (.pick (tT 112) (tT 117) kF),oM 119 118,oT 119 120 (.mov (tT 15)),oT 119 121 (.len (tT 120)),oT 119 122 (.bin .eql .num (tT 121) (kI 2)),oO 123 (.pick (tT 119) (tT 122) kF),oM 124 123,oT 124 125 (.mov (tT 15)),
 oT 124 126 (.iaddr 1 (tT 125) (kI 0)),oT 124 127 (.load true 1 (tT 126)),oT 124 128 (kC 18 [(tT 127)]),⟨(some 129),.bin .eql .num (tT 128) (.const (.string ⟨#[123,50,125]⟩)),(some (124,true))⟩,oO 130 (.pick (tT 124) (tT 129) kF),
 oM 131 130,oT 131 132 (.mov (tT 15)),oT 131 133 (.iaddr 1 (tT 132) (kI 1)),oT 131 134 (.load true 1 (tT 133)),oT 131 135 (kC 18 [(tT 134)]),⟨(some 136),.bin .eql .num (tT 135) (.const (.string ⟨#[123,52,
 125]⟩)),(some (131,true))⟩,oO 137 (.pick (tT 131) (tT 136) kF),oM 0 137]) .ret))))))))))))
theorem ok4 : FnOk Tryz.prog 4 138 ir4 [.tmp 0] := Z8 mixed Tryz.func4 (by kernel_rfl) Tryz.ntmps4 (by kernel_rfl) (by kernel_rfl)
def ir5 : ACode := (sQ (.region [oO 1 (.box (tT 0)),oO 2 (.alloc [(.int .u64 0),(.int .u64 0)])]) (sQ (sQ (.region [oO 3 (.faddr 2 (tT 1)),oO 4 (.load false 1 (tT 3))]) (.cond (tT 4) (sQ (.region [oO 5 (.faddr 0 (tT 1)),
 oO 6 (.load false 1 (tT 5)),oO 7 (.bin .and .num (tT 6) (.const (.int .u8 254))),oO 8 (.conv .u64 (tT 7)),oO 9 (.faddr 1 (tT 1)),oO 10 (.load false 1 (tT 9)),oO 11 (.bin .and .num (tT 10) (.const (.int .u8 254))),
 oO 12 (.conv .u64 (tT 11)),oO 13 (.build [(.int .u64 0),(.int .u64 0)] [(0,1,(tT 8)),(1,1,(tT 12))]),⟨none,.store 2 (tT 2) (tT 13),none⟩]) .ret) .skip)) (sQ (.region [oO 14 (.faddr 0 (tT 1)),oO 15 (.load false 1 (tT 14)),
 oO 16 (.faddr 1 (tT 1)),oO 17 (.load false 1 (tT 16)),oO 18 (kC 19 [(tT 15),(tT 17)]),⟨none,.store 2 (tT 2) (tT 18),none⟩]) .ret)))
theorem ok5 : FnOk Tryz.prog 5 19 ir5 [.cell 2 true 2] := Z8 mixed Tryz.func5 (by kernel_rfl) Tryz.ntmps5 (by kernel_rfl) (by kernel_rfl)
def ir6 : ACode := (sQ (.region [oO 2 (.mov (.const nS))]) (sQ (.region [oO 3 (.mov (.const nS))]) (sQ (sQ (.region [oO 4 (.mov (kI 1))]) (.block 0 (.loop (sQ (sQ (.region [oM 5 4,oM 6 0,oO 7 (.bin .leq .num (tT 5) (tT 6))]) (.cond (tT 7) .skip (.exit 0))) (sQ (.block 1 (sQ (.region [oM 10 4,
 oO 11 (.bin .lss .num (tT 10) (kI 10))]) (.cond (tT 11) (.region [oM 12 3,oM 13 4,oM 14 4,oO 15 (.bin .add .num (tT 14) (kI 1)),⟨(some 16),.slcS (.const (.string ⟨#[48,49,50,51,52,53,54,55,56,57]⟩)) (some (tT 13)) (some (tT 15)),
 none⟩,⟨(some 17),.bin .add .num (.const (.string ⟨#[114]⟩)) (tT 16),none⟩,⟨(some 18),.bslice [(.string ⟨#[]⟩)] 1 [(0,(tT 17))],none⟩,⟨(some 19),.append [(.string ⟨#[]⟩)] 16 (tT 12) (tT 18),none⟩,oM 3 19]) (.draw [⟨0,
 oM 20 3,0,1,false⟩,⟨1,oM 21 4,0,1,false⟩,⟨2,oO 22 (.bin .quo .num (tT 21) (kI 10)),2,1,false⟩,⟨3,oM 23 4,0,1,false⟩,⟨4,oO 24 (.bin .quo .num (tT 23) (kI 10)),8,1,false⟩,⟨5,oO 25 (.bin .add .num (tT 24) (kI 1)),
 24,1,false⟩,⟨6,⟨(some 26),.slcS (.const (.string ⟨#[48,49,50,51,52,53,54,55,56,57]⟩)) (some (tT 22)) (some (tT 25)),none⟩,62,1,false⟩,⟨7,⟨(some 27),.bin .add .num (.const (.string ⟨#[114]⟩)) (tT 26),none⟩,
 126,1,false⟩,⟨8,oM 28 4,0,1,false⟩,⟨9,oO 29 (.bin .rem .num (tT 28) (kI 10)),256,1,false⟩,⟨10,oM 30 4,0,1,false⟩,⟨11,oO 31 (.bin .rem .num (tT 30) (kI 10)),1024,1,false⟩,⟨12,oO 32 (.bin .add .num (tT 31) (kI 1)),
 3072,1,false⟩,⟨13,⟨(some 33),.slcS (.const (.string ⟨#[48,49,50,51,52,53,54,55,56,57]⟩)) (some (tT 29)) (some (tT 32)),none⟩,7936,1,false⟩,⟨14,oO 34 (.bin .add .num (tT 27) (tT 33)),16382,1,false⟩,⟨15,
 ⟨(some 35),.bslice [(.string ⟨#[]⟩)] 1 [(0,(tT 34))],none⟩,32766,1,false⟩,⟨16,⟨(some 36),.append [(.string ⟨#[]⟩)] 16 (tT 20) (tT 35),none⟩,65535,1,false⟩,⟨17,oM 3 36,131071,1,false⟩])))) (.region [oM 8 4,
 oO 9 (.bin .add .num (tT 8) (kI 1)),oM 4 9])))))) (sQ (.region [oM 37 3,oM 2 37]) .ret))))
theorem ok6 : FnOk Tryz.prog 6 38 ir6 [.tmp 2] := Z8 mixed Tryz.func6 (by kernel_rfl) Tryz.ntmps6 (by kernel_rfl) (by kernel_rfl)
def ir7 : ACode := (sQ (.region [oO 2 (.mov (.const (.pointer none)))]) (sQ (.region [oM 6 0,oO 7 (kC 20 [(tT 6),(kI 63)]),oM 5 7,oO 8 (.extract (tT 5) 0),oO 9 (.extract (tT 5) 1),oM 3 8,oM 4 9]) (sQ (sQ (.region [oM 10 4,
 oO 11 (.bin .neq .num (tT 10) (kI 0))]) (.cond (tT 11) (sQ (.region [oO 2 (.mov (.const (.pointer none)))]) .ret) .skip)) (sQ (.region [oM 12 3,oM 2 12]) .ret))))
theorem ok7 : FnOk Tryz.prog 7 13 ir7 [.tmp 2] := Z8 mixed Tryz.func7 (by kernel_rfl) Tryz.ntmps7 (by kernel_rfl) (by kernel_rfl)
def ir8 : ACode := (sQ (.region [oO 2 (.box (tT 0)),⟨(some 4),.mov (.const (.string ⟨#[]⟩)),none⟩]) (sQ (.region [oO 6 (.faddr 0 (tT 2)),oO 7 (.load true 1 (tT 6)),oM 8 1,⟨(some 9),kC 21 [(.const nS),(.const (.string ⟨#[104,
 97,115,32]⟩)),(tT 7),(tT 8)],none⟩,oM 5 9]) (sQ (.region [oM 10 5,oO 11 (.faddr 1 (tT 2)),oO 12 (.load true 1 (tT 11)),oM 13 1,⟨(some 14),kC 21 [(tT 10),(.const (.string ⟨#[108,97,99,107,115,32]⟩)),(tT 12),
 (tT 13)],none⟩,oM 5 14]) (sQ (sQ (.region [oM 15 5,oO 16 (.len (tT 15)),oO 17 (.bin .eql .num (tT 16) (kI 0))]) (.cond (tT 17) (sQ (.region [⟨(some 4),.mov (.const (.string ⟨#[97,110,121,32,114,111,108,
 101,115]⟩)),none⟩]) .ret) .skip)) (sQ (.region [oM 18 5,⟨(some 19),kC 22 [(tT 18),(.const (.string ⟨#[44,32]⟩))],none⟩,oM 4 19]) .ret)))))
theorem ok8 : FnOk Tryz.prog 8 20 ir8 [.tmp 4] := Z8 mixed Tryz.func8 (by kernel_rfl) Tryz.ntmps8 (by kernel_rfl) (by kernel_rfl)
def ir9 : ACode := (sQ (.region [oO 1 (.box (tT 0)),oO 2 (.alloc [nS,nS])]) (sQ (.draw [⟨0,oO 3 (.faddr 0 (tT 1)),0,0,false⟩,⟨1,oO 4 (.load false 1 (tT 3)),1,0,false⟩,⟨2,oO 5 (kC 23 [(tT 4)]),3,0,false⟩,
 ⟨3,oO 6 (.faddr 1 (tT 1)),0,0,false⟩,⟨4,oO 7 (.load false 1 (tT 6)),8,0,false⟩,⟨5,oO 8 (kC 23 [(tT 7)]),31,1,false⟩,⟨6,oO 9 (.build [nS,nS] [(0,1,(tT 5)),(1,1,(tT 8))]),63,1,false⟩,⟨7,⟨none,.store 2 (tT 2) (tT 9),
 none⟩,127,1,false⟩]) .ret))
theorem ok9 : FnOk Tryz.prog 9 10 ir9 [.cell 2 true 2] := Z8 mixed Tryz.func9 (by kernel_rfl) Tryz.ntmps9 (by kernel_rfl) (by kernel_rfl)
def ir10 : ACode := (sQ (.region [oO 2 (.box (tT 0)),⟨(some 4),.mov (.const (.string ⟨#[]⟩)),none⟩]) (sQ (.draw [⟨0,oO 7 (.faddr 0 (tT 2)),0,0,false⟩,⟨1,oO 8 (.load false 1 (tT 7)),1,0,false⟩,⟨2,oM 9 1,
 0,0,false⟩,⟨3,⟨(some 10),kC 24 [(.const (.string ⟨#[104,97,115]⟩)),(tT 8),(tT 9)],none⟩,7,0,false⟩,⟨4,oO 11 (.faddr 1 (tT 2)),0,0,false⟩,⟨5,oO 12 (.load false 1 (tT 11)),16,0,false⟩,⟨6,oM 13 1,0,0,false⟩,
 ⟨7,⟨(some 14),kC 24 [(.const (.string ⟨#[108,97,99,107,115]⟩)),(tT 12),(tT 13)],none⟩,127,1,false⟩,⟨8,oM 5 10,255,1,false⟩,⟨9,oM 6 14,511,1,false⟩]) (sQ (.block 0 (sQ (.region [oM 16 5,⟨(some 17),.bin .neq .num (tT 16) (.const (.string ⟨#[]⟩)),
 none⟩,oM 18 17,oT 18 19 (.mov (tT 6)),⟨(some 20),.bin .neq .num (tT 19) (.const (.string ⟨#[]⟩)),(some (18,true))⟩,oO 21 (.pick (tT 18) (tT 20) kF),oM 15 21]) (.cond (tT 15) (sQ (.region [oM 22 5,⟨(some 23),
 .bin .add .num (tT 22) (.const (.string ⟨#[44,32]⟩)),none⟩,oM 24 6,oO 25 (.bin .add .num (tT 23) (tT 24)),oM 4 25]) .ret) (sQ (.region [oM 27 5,⟨(some 28),.bin .eql .num (tT 27) (.const (.string ⟨#[]⟩)),
 none⟩,oM 29 28,oT 29 30 (.mov (tT 6)),⟨(some 31),.bin .eql .num (tT 30) (.const (.string ⟨#[]⟩)),(some (29,true))⟩,oO 32 (.pick (tT 29) (tT 31) kF),oM 26 32]) (.cond (tT 26) (sQ (.region [⟨(some 4),.mov (.const (.string ⟨#[97,
 110,121,32,114,111,108,101,115]⟩)),none⟩]) .ret) .skip))))) (sQ (.region [oM 33 5,oM 34 6,oO 35 (.bin .add .num (tT 33) (tT 34)),oM 4 35]) .ret))))
theorem ok10 : FnOk Tryz.prog 10 36 ir10 [.tmp 4] := Z8 mixed Tryz.func10 (by kernel_rfl) Tryz.ntmps10 (by kernel_rfl) (by kernel_rfl)
def ir11 : ACode := (sQ (.region [oO 0 (.mov (.const (.pointer none)))]) (sQ (.region [oO 4 (kC 25 [(kI 64),(.const nS)]),oM 3 4,oO 5 (.extract (tT 3) 0),oO 6 (.extract (tT 3) 1),oM 1 5,oM 2 6]) (sQ (.region [oM 7 1,
 oO 8 (.build [(.pointer none)] [(0,1,(tT 7))]),oO 9 (.box (tT 8)),oM 0 9]) .ret)))
theorem ok11 : FnOk Tryz.prog 11 10 ir11 [.tmp 0] := Z8 mixed Tryz.func11 (by kernel_rfl) Tryz.ntmps11 (by kernel_rfl) (by kernel_rfl)
def ir12 : ACode := (sQ (.region [oO 6 (.mov (.const (.pointer none))),oO 7 (.mov (kI 0))]) (sQ (sQ (.region [oM 10 0,oO 11 (.bin .eql .ptr (tT 10) (.const (.pointer none))),oM 12 11,oF 12 13 (.mov (tT 1)),
 oF 12 14 (kC 26 [(tT 13)]),oF 12 15 (.una .not (tT 14)),oO 16 (.pick (tT 12) kT (tT 15)),oM 17 16,oF 17 18 (.mov (tT 2)),oF 17 19 (kC 26 [(tT 18)]),oF 17 20 (.una .not (tT 19)),oO 21 (.pick (tT 17) kT (tT 20)),
 oM 22 21,oF 22 23 (.mov (tT 1)),oF 22 24 (.mov (tT 2)),oF 22 25 (.bin .eql .num (tT 23) (tT 24)),oO 26 (.pick (tT 22) kT (tT 25))]) (.cond (tT 26) (sQ (.region [oO 6 (.mov (.const (.pointer none))),oO 7 (.mov (kI 1))]) .ret) .skip)) (sQ (.region [oM 28 0,
 oO 29 (.nilck (tT 28)),oO 30 (.faddr 0 (tT 29)),oO 31 (.load false 1 (tT 30)),oM 32 1,oM 33 2,oO 34 (kC 27 [(tT 31),(tT 32),(tT 33)]),oM 27 34,oO 35 (.extract (tT 27) 0),oO 36 (.extract (tT 27) 1),oM 8 35,
 oM 9 36]) (sQ (sQ (.region [oM 37 9,oO 38 (.bin .neq .num (tT 37) (kI 0))]) (.cond (tT 38) (sQ (.region [oM 39 9,oO 6 (.mov (.const (.pointer none))),oM 7 39]) .ret) .skip)) (sQ (.region [oM 40 8,oO 41 (.build [(.pointer none)] [(0,
 1,(tT 40))]),oO 42 (.box (tT 41)),oM 6 42,oO 7 (.mov (kI 0))]) .ret)))))
theorem ok12 : FnOk Tryz.prog 12 43 ir12 [.tmp 6, .tmp 7] := Z8 mixed Tryz.func12 (by kernel_rfl) Tryz.ntmps12 (by kernel_rfl) (by kernel_rfl)
def ir13 : ACode := (sQ (.region [oO 2 (.box (tT 0)),oO 3 (.box (tT 1)),oO 4 (.alloc [nS,nS]),oO 5 (.mov kF)]) (sQ (sQ (.region [oO 10 (.load true 4 (tT 2)),oO 11 (kC 28 [(tT 10),(.const (.int .u8 1))]),
 oO 12 (.bin .neq .num (tT 11) (kI 0))]) (.cond (tT 12) (sQ (.region [oO 13 (.build [nS,nS] []),⟨none,.store 2 (tT 4) (tT 13),none⟩,oO 5 (.mov kF)]) .ret) .skip)) (sQ (.region [oO 15 (.load true 4 (tT 2)),
 oO 16 (kC 29 [(tT 15)]),oM 14 16,oO 17 (.extract (tT 14) 0),oO 18 (.extract (tT 14) 1),oM 6 17,oM 7 18]) (sQ (sQ (.region [oM 19 6,oO 20 (.len (tT 19)),oO 21 (.mov (kI 0))]) (.block 0 (.loop (sQ (.region [oO 22 (.bin .lss .num (tT 21) (tT 20))]) (sQ (.cond (tT 22) .skip (.exit 0)) (sQ (.block 1 (sQ (.region [oO 23 (.iaddr 2 (tT 19) (tT 21)),
 oO 24 (.load true 2 (tT 23)),oO 9 (.alloc [nS,nS]),⟨none,.store 2 (tT 9) (tT 24),none⟩]) (sQ (.region [oO 25 (.load true 2 (tT 9)),oO 26 (.load true 1 (tT 3)),oO 27 (kC 30 [(tT 25),(tT 26)])]) (.cond (tT 27) (sQ (.region [oO 28 (.load true 2 (tT 9)),
 ⟨none,.store 2 (tT 4) (tT 28),none⟩,oO 5 (.mov kT)]) .ret) .skip)))) (.region [oO 29 (.bin .add .num (tT 21) (kI 1)),oM 21 29]))))))) (sQ (.region [oO 30 (.build [nS,nS] []),⟨none,.store 2 (tT 4) (tT 30),
 none⟩,oO 5 (.mov kF)]) .ret)))))
theorem ok13 : FnOk Tryz.prog 13 31 ir13 [.cell 4 true 2, .tmp 5] := Z8 mixed Tryz.func13 (by kernel_rfl) Tryz.ntmps13 (by kernel_rfl) (by kernel_rfl)
def ir14 : ACode := (sQ (.region [oO 2 (.alloc [nS])]) (sQ (.region [oO 3 (.mov (.const (.int .i64 (-1))))]) (sQ (sQ (.region [oM 9 0,oO 10 (.len (tT 9)),oO 11 (.mov (kI 0))]) (.block 0 (.loop (sQ (.region [oO 12 (.bin .lss .num (tT 11) (tT 10))]) (sQ (.cond (tT 12) .skip (.exit 0)) (sQ (.block 1 (sQ (.region [oO 13 (.iaddr 1 (tT 9) (tT 11)),
 oO 14 (.load false 1 (tT 13)),oM 5 14]) (sQ (.region [oM 15 5,oO 16 (.bin .leq .num (tT 15) (kI 4095))]) (.cond (tT 16) (.region [oM 17 3,oM 18 5,oO 19 (.mx (tT 17) (tT 18)),oM 3 19]) .skip)))) (.region [oO 20 (.bin .add .num (tT 11) (kI 1)),
 oM 11 20]))))))) (sQ (sQ (.region [oM 21 3,oO 22 (.bin .lss .num (tT 21) (kI 0))]) (.cond (tT 22) (sQ (.region [oO 23 (.build [nS] []),⟨none,.store 1 (tT 2) (tT 23),none⟩]) .ret) .skip)) (sQ (.region [oM 24 3,
 oO 25 (.bin .quo .num (tT 24) (kI 64)),oO 26 (.bin .add .num (tT 25) (kI 1)),oO 27 (.mslice [(.int .u64 0)] 8 (tT 26) (tT 26)),oM 6 27]) (sQ (sQ (.region [oM 28 0,oO 29 (.len (tT 28)),oO 30 (.mov (kI 0))]) (.block 2 (.loop (sQ (.region [oO 31 (.bin .lss .num (tT 30) (tT 29))]) (sQ (.cond (tT 31) .skip (.exit 2)) (sQ (.block 3 (sQ (.region [oO 32 (.iaddr 1 (tT 28) (tT 30)),
 oO 33 (.load false 1 (tT 32)),oM 8 33]) (sQ (.region [oM 34 8,oO 35 (.bin .geq .num (tT 34) (kI 0)),oM 36 35,oT 36 37 (.mov (tT 8)),oT 36 38 (.mov (tT 3)),oT 36 39 (.bin .leq .num (tT 37) (tT 38)),oO 40 (.pick (tT 36) (tT 39) kF)]) (.cond (tT 40) (.draw [⟨0,
 oM 41 6,0,1,false⟩,⟨1,oM 42 8,0,1,false⟩,⟨2,oO 43 (.bin .quo .num (tT 42) (kI 64)),2,1,false⟩,⟨3,oO 44 (.iaddr 1 (tT 41) (tT 43)),7,1,false⟩,⟨4,oO 45 (.load false 1 (tT 44)),15,1,false⟩,⟨5,oM 46 8,0,0,
 false⟩,⟨6,oO 47 (.bin .rem .num (tT 46) (kI 64)),32,0,false⟩,⟨7,oO 48 (.bin .shl .num (.const (.int .u64 1)) (tT 47)),96,0,false⟩,⟨8,oO 49 (.bin .or .num (tT 45) (tT 48)),255,1,false⟩,⟨9,oO 50 (.iaddr 1 (tT 41) (tT 43)),
 511,1,false⟩,⟨10,⟨none,.store 1 (tT 50) (tT 49),none⟩,1023,1,false⟩]) .skip)))) (.region [oO 51 (.bin .add .num (tT 30) (kI 1)),oM 30 51]))))))) (sQ (.region [oM 52 6,oO 53 (kC 31 [(tT 52)]),⟨none,.store 1 (tT 2) (tT 53),
 none⟩]) .ret)))))))
theorem ok14 : FnOk Tryz.prog 14 54 ir14 [.cell 2 true 1] := Z8 mixed Tryz.func14 (by kernel_rfl) Tryz.ntmps14 (by kernel_rfl) (by kernel_rfl)
def ir15 : ACode := (sQ (.region [oO 3 (.box (tT 0)),oO 4 (.box (tT 1)),oO 5 (.box (tT 2)),oO 6 (.mov (.const nS)),oO 7 (.mov (kI 0))]) (sQ (sQ (.region [oO 9 (.load true 4 (tT 3)),oO 10 (.load false 1 (tT 5)),
 oO 11 (.load true 1 (tT 4)),oO 12 (kC 32 [(tT 9),(tT 10),(tT 11)]),oM 8 12]) (sQ (.region [oM 13 8,oO 14 (.bin .neq .num (tT 13) (kI 0))]) (.cond (tT 14) (sQ (.region [oM 15 8,oO 6 (.mov (.const nS)),oM 7 15]) .ret) .skip))) (sQ (.region [oO 16 (.load true 1 (tT 4)),
 oO 17 (kC 34 [(tT 16)]),oO 18 (.mkfn 35 [(tT 3),(tT 5),(tT 4)]),oO 19 (kC 33 [(tT 17),(tT 18)]),oO 20 (.extract (tT 19) 0),oO 21 (.extract (tT 19) 1),oM 6 20,oM 7 21]) .ret)))
theorem ok15 : FnOk Tryz.prog 15 22 ir15 [.tmp 6, .tmp 7] := Z8 mixed Tryz.func15 (by kernel_rfl) Tryz.ntmps15 (by kernel_rfl) (by kernel_rfl)
def ir16 : ACode := (sQ (.region [oO 4 (.box (tT 0)),oO 5 (.box (tT 1)),oO 6 (.box (tT 2)),oO 7 (.box (tT 3)),oO 8 (.mov (.const nS)),oO 9 (.mov (kI 0))]) (sQ (sQ (.draw [⟨0,oO 11 (.load true 4 (tT 4)),
 0,0,false⟩,⟨1,oO 12 (.load false 1 (tT 7)),0,0,false⟩,⟨2,oO 13 (.load true 1 (tT 5)),0,0,false⟩,⟨3,oO 14 (.load true 1 (tT 6)),0,0,false⟩,⟨4,oO 15 (kC 39 [(tT 13),(tT 14)]),12,0,false⟩,⟨5,oO 16 (kC 32 [(tT 11),
 (tT 12),(tT 15)]),31,1,false⟩,⟨6,oM 10 16,63,1,false⟩]) (sQ (.region [oM 17 10,oO 18 (.bin .neq .num (tT 17) (kI 0))]) (.cond (tT 18) (sQ (.region [oM 19 10,oO 8 (.mov (.const nS)),oM 9 19]) .ret) .skip))) (sQ (.region [oO 20 (.load true 1 (tT 6)),
 oO 21 (.load true 1 (tT 5)),oO 22 (kC 38 [(tT 20),(tT 21)]),oO 23 (kC 34 [(tT 22)]),oO 24 (.mkfn 40 [(tT 4),(tT 7),(tT 5)]),oO 25 (kC 33 [(tT 23),(tT 24)]),oO 26 (.extract (tT 25) 0),oO 27 (.extract (tT 25) 1),
 oM 8 26,oM 9 27]) .ret)))
theorem ok16 : FnOk Tryz.prog 16 28 ir16 [.tmp 8, .tmp 9] := Z8 mixed Tryz.func16 (by kernel_rfl) Tryz.ntmps16 (by kernel_rfl) (by kernel_rfl)
def ir17 : ACode := (sQ (.region [oO 1 (.box (tT 0)),⟨(some 2),.mov (.const (.string ⟨#[]⟩)),none⟩]) (sQ (.region [oO 3 (.alloc [nS])]) (sQ (sQ (.region [oO 5 (.faddr 0 (tT 1)),oO 6 (.load true 1 (tT 5)),
 oO 7 (.faddr 1 (tT 1)),oO 8 (.load true 1 (tT 7)),oO 9 (kC 39 [(tT 6),(tT 8)]),oO 10 (kC 41 [(tT 9)])]) (.block 0 (.range (tT 10) [11] [(4,(tT 11))] (.block 1 (sQ (sQ (.region [oO 12 (.faddr 0 (tT 1)),
 oO 13 (.load true 1 (tT 12)),oM 14 4,oO 15 (kC 42 [(tT 13),(tT 14)])]) (.cond (tT 15) (.draw [⟨0,oO 16 (.load false 1 (tT 3)),0,1,false⟩,⟨1,oM 17 4,0,0,false⟩,⟨2,oO 18 (kC 43 [(tT 17)]),2,0,false⟩,⟨3,⟨(some 19),
 .bslice [(.string ⟨#[]⟩)] 1 [(0,(tT 18))],none⟩,6,0,false⟩,⟨4,⟨(some 20),.append [(.string ⟨#[]⟩)] 16 (tT 16) (tT 19),none⟩,15,1,false⟩,⟨5,⟨none,.store 1 (tT 3) (tT 20),none⟩,31,1,false⟩]) .skip)) (sQ (.region [oO 21 (.faddr 1 (tT 1)),
 oO 22 (.load true 1 (tT 21)),oM 23 4,oO 24 (kC 42 [(tT 22),(tT 23)])]) (.cond (tT 24) (.draw [⟨0,oO 25 (.load false 1 (tT 3)),0,1,false⟩,⟨1,oM 26 4,0,0,false⟩,⟨2,oO 27 (kC 43 [(tT 26)]),2,0,false⟩,⟨3,⟨(some 28),
 .bin .add .num (.const (.string ⟨#[33]⟩)) (tT 27),none⟩,6,0,false⟩,⟨4,⟨(some 29),.bslice [(.string ⟨#[]⟩)] 1 [(0,(tT 28))],none⟩,14,0,false⟩,⟨5,⟨(some 30),.append [(.string ⟨#[]⟩)] 16 (tT 25) (tT 29),none⟩,
 31,1,false⟩,⟨6,⟨none,.store 1 (tT 3) (tT 30),none⟩,63,1,false⟩]) .skip))))))) (sQ (sQ (.region [oO 31 (.load false 1 (tT 3)),oO 32 (.len (tT 31)),oO 33 (.bin .eql .num (tT 32) (kI 0))]) (.cond (tT 33) (sQ (.region [⟨(some 2),
 .mov (.const (.string ⟨#[102,117,108,108]⟩)),none⟩]) .ret) .skip)) (sQ (.region [oO 34 (.load false 1 (tT 3)),⟨(some 35),kC 22 [(tT 34),(.const (.string ⟨#[32]⟩))],none⟩,oM 2 35]) .ret)))))
theorem ok17 : FnOk Tryz.prog 17 36 ir17 [.tmp 2] := Z8 mixed Tryz.func17 (by kernel_rfl) Tryz.ntmps17 (by kernel_rfl) (by kernel_rfl)
def ir19 : ACode := (sQ (.region [oO 4 (.alloc [(.int .u64 0),(.int .u64 0)])]) (sQ (.region [oM 5 0,oM 6 1,oO 7 (.bin .and .num (tT 5) (tT 6)),oO 8 (.bin .and .num (tT 7) (.const (.int .u8 63))),oO 9 (.conv .u64 (tT 8)),
 oO 10 (.bin .shl .num (tT 9) (.const (.int .u64 1))),oM 11 0,oO 12 (.bin .and .num (tT 11) (.const (.int .u8 63))),oM 13 1,oO 14 (.bin .sub .num (.const (.int .u8 255)) (tT 13)),oO 15 (.bin .and .num (tT 12) (tT 14)),
 oO 16 (.conv .u64 (tT 15)),oO 17 (.bin .shl .num (tT 16) (.const (.int .u64 1))),oO 18 (.build [(.int .u64 0),(.int .u64 0)] [(0,1,(tT 10)),(1,1,(tT 17))]),⟨none,.store 2 (tT 4) (tT 18),none⟩]) .ret))
theorem ok19 : FnOk Tryz.prog 19 19 ir19 [.cell 4 true 2] := Z8 mixed Tryz.func19 (by kernel_rfl) Tryz.ntmps19 (by kernel_rfl) (by kernel_rfl)
def ir20 : ACode := (sQ (.region [oO 4 (.mov (.const (.pointer none))),oO 5 (.mov (kI 0))]) (sQ (.region [oO 12 (kC 48 []),oM 6 12]) (sQ (sQ (.region [oM 13 0,oO 14 (.len (tT 13)),oO 15 (.mov (kI 0))]) (.block 0 (.loop (sQ (.region [oO 16 (.bin .lss .num (tT 15) (tT 14))]) (sQ (.cond (tT 16) .skip (.exit 0)) (sQ (.block 1 (sQ (.region [oO 17 (.iaddr 1 (tT 13) (tT 15)),
 oO 18 (.load false 1 (tT 17)),oM 8 18]) (sQ (.region [oM 20 6,oM 21 8,oM 22 1,oO 23 (kC 49 [(tT 20),(tT 21),(tT 22)]),oM 19 23,oO 24 (.extract (tT 19) 0),oO 25 (.extract (tT 19) 1),oO 26 (.extract (tT 19) 2),
 oM 9 24,oM 10 25,oM 11 26]) (sQ (sQ (.region [oM 27 11,oO 28 (.bin .neq .num (tT 27) (kI 0))]) (.cond (tT 28) (sQ (.region [oM 29 11,oO 4 (.mov (.const (.pointer none))),oM 5 29]) .ret) .skip)) (.region [oM 30 9,
 oM 6 30]))))) (.region [oO 31 (.bin .add .num (tT 15) (kI 1)),oM 15 31]))))))) (sQ (.region [oM 32 6,oM 4 32,oO 5 (.mov (kI 0))]) .ret))))
theorem ok20 : FnOk Tryz.prog 20 33 ir20 [.tmp 4, .tmp 5] := Z8 mixed Tryz.func20 (by kernel_rfl) Tryz.ntmps20 (by kernel_rfl) (by kernel_rfl)
def ir21 : ACode := (sQ (.region [oO 6 (.box (tT 2)),oO 7 (.box (tT 3)),oO 8 (.mov (.const nS))]) (sQ (sQ (.region [oO 13 (.load true 1 (tT 6)),oO 14 (kC 50 [(tT 13)])]) (.cond (tT 14) (sQ (.region [oM 15 0,
 oM 8 15]) .ret) .skip)) (sQ (.region [oO 9 (.alloc [nS])]) (sQ (sQ (.region [oO 16 (.load true 1 (tT 6)),oO 17 (kC 41 [(tT 16)])]) (.block 0 (.range (tT 17) [18] [(10,(tT 18))] (.block 1 (sQ (.region [oO 20 (.load false 1 (tT 7)),
 oM 21 10,oO 22 (kC 51 [(tT 20),(tT 21)]),oM 19 22,oO 23 (.extract (tT 19) 0),oO 24 (.extract (tT 19) 1),oM 11 23,oM 12 24]) (sQ (sQ (.region [oM 25 12,oO 26 (.una .not (tT 25))]) (.cond (tT 26) (.region [oM 27 10,
 oO 28 (kC 43 [(tT 27)]),oM 11 28]) .skip)) (.region [oO 29 (.load false 1 (tT 9)),oM 30 11,⟨(some 31),.bslice [(.string ⟨#[]⟩)] 1 [(0,(tT 30))],none⟩,⟨(some 32),.append [(.string ⟨#[]⟩)] 16 (tT 29) (tT 31),
 none⟩,⟨none,.store 1 (tT 9) (tT 32),none⟩]))))))) (sQ (.region [oM 33 0,oM 34 1,oO 35 (.load false 1 (tT 9)),⟨(some 36),kC 22 [(tT 35),(.const (.string ⟨#[32,97,110,100,32]⟩))],none⟩,oO 37 (.bin .add .num (tT 34) (tT 36)),
 ⟨(some 38),.bslice [(.string ⟨#[]⟩)] 1 [(0,(tT 37))],none⟩,⟨(some 39),.append [(.string ⟨#[]⟩)] 16 (tT 33) (tT 38),none⟩,oM 8 39]) .ret)))))
theorem ok21 : FnOk Tryz.prog 21 40 ir21 [.tmp 8] := Z8 mixed Tryz.func21 (by kernel_rfl) Tryz.ntmps21 (by kernel_rfl) (by kernel_rfl)
def ir23 : ACode := (sQ (.region [oO 2 (.alloc [nS])]) (sQ (.region [oM 3 0,oO 4 (kC 53 [(tT 3)]),oO 5 (kC 14 [(tT 4)]),⟨none,.store 1 (tT 2) (tT 5),none⟩]) .ret))
theorem ok23 : FnOk Tryz.prog 23 6 ir23 [.cell 2 true 1] := Z8 mixed Tryz.func23 (by kernel_rfl) Tryz.ntmps23 (by kernel_rfl) (by kernel_rfl)
def ir24 : ACode := (sQ (.region [⟨(some 6),.mov (.const (.string ⟨#[]⟩)),none⟩]) (sQ (.region [⟨(some 7),.mov (.const (.string ⟨#[]⟩)),none⟩]) (sQ (sQ (.region [oM 11 1,oO 12 (kC 53 [(tT 11)]),oO 13 (.len (tT 12)),
 oO 14 (.mov (kI 0))]) (.block 0 (.loop (sQ (.region [oO 15 (.bin .lss .num (tT 14) (tT 13))]) (sQ (.cond (tT 15) .skip (.exit 0)) (sQ (.block 1 (sQ (.region [oO 16 (.iaddr 1 (tT 12) (tT 14)),oO 17 (.load false 1 (tT 16)),
 oM 9 17]) (sQ (.region [oM 18 9,oO 19 (kC 54 [(tT 18)]),oM 10 19]) (sQ (sQ (.region [oM 20 9,oO 21 (.bin .geq .num (tT 20) (kI 1)),oM 22 21,oT 22 23 (.mov (tT 9)),oT 22 24 (.mov (tT 2)),oT 22 25 (.len (tT 24)),
 oT 22 26 (.bin .leq .num (tT 23) (tT 25)),oO 27 (.pick (tT 22) (tT 26) kF)]) (.cond (tT 27) (.region [oM 28 2,oM 29 9,oO 30 (.bin .sub .num (tT 29) (kI 1)),oO 31 (.iaddr 1 (tT 28) (tT 30)),oO 32 (.load false 1 (tT 31)),
 oM 10 32]) .skip)) (sQ (.region [oM 33 7,⟨(some 34),.bin .eql .num (tT 33) (.const (.string ⟨#[]⟩)),none⟩]) (.cond (tT 34) (.region [oM 35 0,⟨(some 36),.bin .add .num (tT 35) (.const (.string ⟨#[32]⟩)),
 none⟩,oM 37 10,oO 38 (.bin .add .num (tT 36) (tT 37)),oM 7 38]) (.region [oM 39 7,oM 40 10,⟨(some 41),.bin .add .num (.const (.string ⟨#[32,97,110,100,32]⟩)) (tT 40),none⟩,oO 42 (.bin .add .num (tT 39) (tT 41)),
 oM 7 42]))))))) (.region [oO 43 (.bin .add .num (tT 14) (kI 1)),oM 14 43]))))))) (sQ (.region [oM 44 7,oM 6 44]) .ret))))
theorem ok24 : FnOk Tryz.prog 24 45 ir24 [.tmp 6] := Z8 mixed Tryz.func24 (by kernel_rfl) Tryz.ntmps24 (by kernel_rfl) (by kernel_rfl)
def ir25 : ACode := (sQ (.region [oO 4 (.mov (.const (.pointer none))),oO 5 (.mov (kI 0))]) (sQ (sQ (.region [oM 10 0,oO 11 (.bin .lss .num (tT 10) (kI 0)),oM 12 11,oF 12 13 (.mov (tT 0)),oF 12 14 (.bin .gtr .num (tT 13) (kI 256)),
 oO 15 (.pick (tT 12) kT (tT 14))]) (.cond (tT 15) (sQ (.region [oO 4 (.mov (.const (.pointer none))),oO 5 (.mov (kI 1))]) .ret) .skip)) (sQ (sQ (.region [oM 16 1,oO 17 (.len (tT 16)),oO 18 (.mov (kI 0))]) (.block 0 (.loop (sQ (.region [oO 19 (.bin .lss .num (tT 18) (tT 17))]) (sQ (.cond (tT 19) .skip (.exit 0)) (sQ (.block 1 (sQ (.region [oO 20 (.iaddr 2 (tT 16) (tT 18)),
 oO 21 (.load true 2 (tT 20)),oO 7 (.alloc [(.int .i64 0),(.int .i64 0)]),⟨none,.store 2 (tT 7) (tT 21),none⟩]) (sQ (.region [oO 22 (.iaddrA 2 1 (tT 7) (kI 0)),oO 23 (.load false 1 (tT 22)),oO 24 (.iaddrA 2 1 (tT 7) (kI 1)),
 oO 25 (.load false 1 (tT 24)),oO 26 (.mn (tT 23) (tT 25)),oO 27 (.bin .lss .num (tT 26) (kI 0)),oM 28 27,oF 28 29 (.iaddrA 2 1 (tT 7) (kI 0)),oF 28 30 (.load false 1 (tT 29)),oF 28 31 (.iaddrA 2 1 (tT 7) (kI 1)),
 oF 28 32 (.load false 1 (tT 31)),oF 28 33 (.mx (tT 30) (tT 32)),oF 28 34 (.mov (tT 0)),oF 28 35 (.bin .geq .num (tT 33) (tT 34)),oO 36 (.pick (tT 28) kT (tT 35))]) (.cond (tT 36) (sQ (.region [oO 4 (.mov (.const (.pointer none))),
 oO 5 (.mov (kI 2))]) .ret) .skip)))) (.region [oO 37 (.bin .add .num (tT 18) (kI 1)),oM 18 37]))))))) (sQ (.region [oO 38 (.bslice [(.int .i64 0),(.int .i64 0)] 0 []),oM 39 1,oO 40 (.append [(.int .i64 0),
 (.int .i64 0)] 16 (tT 38) (tT 39)),oM 8 40]) (sQ (.region [oM 41 8,oO 42 (kC 55 [(tT 41),(.func 56)])]) (sQ (.region [oM 43 0,oM 44 8,oO 45 (kC 58 [(tT 44)]),oO 46 (kC 57 [(tT 45)]),oO 47 (.build [(.int .i64 0),
 nS,nS,nS,nS] [(0,1,(tT 43)),(1,1,(tT 46))]),oO 48 (.box (tT 47)),oM 9 48]) (sQ (sQ (.region [oM 49 9,oO 50 (kC 59 [(tT 49)]),oO 51 (.una .not (tT 50))]) (.cond (tT 51) (sQ (.region [oO 4 (.mov (.const (.pointer none))),
 oO 5 (.mov (kI 16))]) .ret) .skip)) (sQ (.region [oM 52 9,oO 53 (kC 60 [(tT 52)])]) (sQ (.region [oM 54 9,oM 4 54,oO 5 (.mov (kI 0))]) .ret)))))))))
theorem ok25 : FnOk Tryz.prog 25 55 ir25 [.tmp 4, .tmp 5] := Z8 mixed Tryz.func25 (by kernel_rfl) Tryz.ntmps25 (by kernel_rfl) (by kernel_rfl)
def ir26 : ACode := (sQ (.region [oO 2 (.mov kF)]) (sQ (.region [oM 3 0,oO 4 (.bin .geq .num (tT 3) (kI 1)),oM 5 4,oT 5 6 (.mov (tT 0)),oT 5 7 (.bin .leq .num (tT 6) (kI 63)),oO 8 (.pick (tT 5) (tT 7) kF),
 oM 2 8]) .ret))
theorem ok26 : FnOk Tryz.prog 26 9 ir26 [.tmp 2] := Z8 mixed Tryz.func26 (by kernel_rfl) Tryz.ntmps26 (by kernel_rfl) (by kernel_rfl)
def ir27 : ACode := (sQ (.region [oO 6 (.mov (.const (.pointer none))),oO 7 (.mov (kI 0))]) (sQ (sQ (.region [oM 8 0,oO 9 (.bin .eql .ptr (tT 8) (.const (.pointer none)))]) (.cond (tT 9) (sQ (.region [oO 6 (.mov (.const (.pointer none))),
 oO 7 (.mov (kI 1))]) .ret) .skip)) (sQ (sQ (.region [oM 10 0,oM 11 1,oO 12 (kC 61 [(tT 10),(tT 11)]),oO 13 (.una .not (tT 12)),oM 14 13,oF 14 15 (.mov (tT 0)),oF 14 16 (.mov (tT 2)),oF 14 17 (kC 61 [(tT 15),
 (tT 16)]),oF 14 18 (.una .not (tT 17)),oO 19 (.pick (tT 14) kT (tT 18))]) (.cond (tT 19) (sQ (.region [oO 6 (.mov (.const (.pointer none))),oO 7 (.mov (kI 2))]) .ret) .skip)) (sQ (sQ (.region [oM 20 0,
 oO 21 (.nilck (tT 20)),oO 22 (.faddr 1 (tT 21)),oO 23 (.load false 1 (tT 22)),oM 24 1,oM 25 2,oO 26 (.build [(.int .i64 0),(.int .i64 0)] [(0,1,(tT 24)),(1,1,(tT 25))]),oO 27 (kC 62 [(tT 23),(tT 26)])]) (.cond (tT 27) (sQ (.region [oO 6 (.mov (.const (.pointer none))),
 oO 7 (.mov (kI 5))]) .ret) .skip)) (sQ (.draw [⟨0,oM 28 0,0,0,false⟩,⟨1,oO 29 (.nilck (tT 28)),1,0,false⟩,⟨2,oO 30 (.faddr 0 (tT 29)),3,0,false⟩,⟨3,oO 31 (.load false 1 (tT 30)),7,0,false⟩,⟨4,oM 32 0,0,
 0,false⟩,⟨5,oO 33 (kC 63 [(tT 32)]),16,0,false⟩,⟨6,oM 34 1,0,0,false⟩,⟨7,oM 35 2,0,0,false⟩,⟨8,oO 36 (.build [(.int .i64 0),(.int .i64 0)] [(0,1,(tT 34)),(1,1,(tT 35))]),192,0,false⟩,⟨9,oO 37 (.bslice [(.int .i64 0),
 (.int .i64 0)] 1 [(0,(tT 36))]),448,0,false⟩,⟨10,oO 38 (.append [(.int .i64 0),(.int .i64 0)] 16 (tT 33) (tT 37)),1008,2016,false⟩,⟨11,oO 39 (kC 25 [(tT 31),(tT 38)]),2047,1,false⟩,⟨12,oO 40 (.extract (tT 39) 0),
 4095,1,false⟩,⟨13,oO 41 (.extract (tT 39) 1),4095,1,false⟩,⟨14,oM 6 40,16383,1,false⟩,⟨15,oM 7 41,32767,1,false⟩]) .ret)))))
theorem ok27 : FnOk Tryz.prog 27 42 ir27 [.tmp 6, .tmp 7] := Z8 mixed Tryz.func27 (by kernel_rfl) Tryz.ntmps27 (by kernel_rfl) (by kernel_rfl)
def ir28 : ACode := (sQ (.region [oO 2 (.box (tT 0)),oO 4 (.mov (kI 0))]) (sQ (sQ (.region [oM 6 1,oO 7 (.bin .lss .num (tT 6) (.const (.int .u8 1))),oM 8 7,oF 8 9 (.mov (tT 1)),oF 8 10 (.bin .gtr .num (tT 9) (.const (.int .u8 3))),
 oO 11 (.pick (tT 8) kT (tT 10))]) (.cond (tT 11) (sQ (.region [oO 4 (.mov (kI 1))]) .ret) .skip)) (sQ (sQ (.region [oO 12 (.load true 4 (tT 2)),oM 13 1,oO 14 (kC 64 [(tT 12),(tT 13)]),oM 5 14]) (sQ (.region [oM 15 5,
 oO 16 (.bin .neq .num (tT 15) (kI 0))]) (.cond (tT 16) (sQ (.region [oM 17 5,oM 4 17]) .ret) .skip))) (sQ (sQ (.region [oO 18 (.load true 4 (tT 2)),oO 19 (kC 65 [(tT 18)]),oO 20 (.una .not (tT 19)),oM 21 20,
 oF 21 22 (.faddr 0 (tT 2)),oF 21 23 (.load false 1 (tT 22)),oF 21 24 (kC 66 [(tT 23)]),oF 21 25 (.bin .neq .num (tT 24) (.const (.int .u8 1))),oO 26 (.pick (tT 21) kT (tT 25))]) (.cond (tT 26) (sQ (.region [oO 4 (.mov (kI 10))]) .ret) .skip)) (sQ (sQ (.region [oM 27 1,
 oO 28 (.bin .neq .num (tT 27) (.const (.int .u8 3))),oM 29 28,oT 29 30 (.load true 4 (tT 2)),oT 29 31 (kC 67 [(tT 30)]),oT 29 32 (kC 68 [(tT 31)]),oT 29 33 (.bin .gtr .num (tT 32) (kI 8)),oO 34 (.pick (tT 29) (tT 33) kF)]) (.cond (tT 34) (sQ (.region [oO 4 (.mov (kI 3))]) .ret) .skip)) (sQ (.region [oO 4 (.mov (kI 0))]) .ret))))))
theorem ok28 : FnOk Tryz.prog 28 35 ir28 [.tmp 4] := Z8 mixed Tryz.func28 (by kernel_rfl) Tryz.ntmps28 (by kernel_rfl) (by kernel_rfl)
def ir29 : ACode := (sQ (.region [oO 1 (.box (tT 0)),oO 2 (.mov (.const nS)),oO 3 (.mov (kI 0))]) (sQ (sQ (.region [oO 5 (.load true 4 (tT 1)),oO 6 (kC 28 [(tT 5),(.const (.int .u8 1))]),oM 4 6]) (sQ (.region [oM 7 4,
 oO 8 (.bin .neq .num (tT 7) (kI 0))]) (.cond (tT 8) (sQ (.region [oM 9 4,oO 2 (.mov (.const nS)),oM 3 9]) .ret) .skip))) (sQ (.region [oO 10 (.load true 4 (tT 1)),oO 11 (kC 67 [(tT 10)]),oO 12 (kC 34 [(tT 11)]),
 oO 13 (.mkfn 70 [(tT 1)]),oO 14 (kC 69 [(tT 12),(tT 13)]),oM 2 14,oO 3 (.mov (kI 0))]) .ret)))
theorem ok29 : FnOk Tryz.prog 29 15 ir29 [.tmp 2, .tmp 3] := Z8 mixed Tryz.func29 (by kernel_rfl) Tryz.ntmps29 (by kernel_rfl) (by kernel_rfl)
def ir30 : ACode := (sQ (.region [oO 2 (.box (tT 0)),oO 3 (.box (tT 1)),oO 4 (.mov kF)]) (sQ (.region [oO 5 (.faddr 0 (tT 2)),oO 6 (.load true 1 (tT 5)),oO 7 (.load true 1 (tT 3)),oO 8 (kC 72 [(tT 6),(tT 7)]),
 oM 9 8,oT 9 10 (.faddr 1 (tT 2)),oT 9 11 (.load true 1 (tT 10)),oT 9 12 (.load true 1 (tT 3)),oT 9 13 (kC 73 [(tT 11),(tT 12)]),oT 9 14 (.una .not (tT 13)),oO 15 (.pick (tT 9) (tT 14) kF),oM 4 15]) .ret))
theorem ok30 : FnOk Tryz.prog 30 16 ir30 [.tmp 4] := Z8 mixed Tryz.func30 (by kernel_rfl) Tryz.ntmps30 (by kernel_rfl) (by kernel_rfl)
def ir31 : ACode := (sQ (.region [oO 2 (.alloc [nS])]) (sQ (.block 0 (.loop (sQ (sQ (.region [oM 3 0,oO 4 (.len (tT 3)),oO 5 (.bin .gtr .num (tT 4) (kI 0)),oM 6 5,oT 6 7 (.mov (tT 0)),oT 6 8 (.mov (tT 0)),
 oT 6 9 (.len (tT 8)),oT 6 10 (.bin .sub .num (tT 9) (kI 1)),oT 6 11 (.iaddr 1 (tT 7) (tT 10)),oT 6 12 (.load false 1 (tT 11)),oT 6 13 (.bin .eql .num (tT 12) (.const (.int .u64 0))),oO 14 (.pick (tT 6) (tT 13) kF)]) (.cond (tT 14) .skip (.exit 0))) (.block 1 (.region [oM 15 0,
 oM 16 0,oO 17 (.len (tT 16)),oO 18 (.bin .sub .num (tT 17) (kI 1)),oO 19 (.slc 1 (tT 15) none (some (tT 18)) none),oM 0 19]))))) (sQ (.region [oM 20 0,oO 21 (.build [nS] [(0,1,(tT 20))]),⟨none,.store 1 (tT 2) (tT 21),
 none⟩]) .ret)))
theorem ok31 : FnOk Tryz.prog 31 22 ir31 [.cell 2 true 1] := Z8 mixed Tryz.func31 (by kernel_rfl) Tryz.ntmps31 (by kernel_rfl) (by kernel_rfl)
def ir32 : ACode := (sQ (.region [oO 3 (.box (tT 0)),oO 5 (.box (tT 2)),oO 6 (.mov (kI 0))]) (sQ (sQ (.draw [⟨0,oM 7 1,0,1,false⟩,⟨1,oO 8 (.bin .eql .ptr (tT 7) (.const (.pointer none))),1,1,false⟩,⟨2,
 oM 9 8,3,1,false⟩,⟨3,oF 9 10 (.load true 1 (tT 5)),7,1,false⟩,⟨4,oF 9 11 (kC 42 [(tT 10),(kI 0)]),15,1,false⟩,⟨5,oO 12 (.pick (tT 9) kT (tT 11)),31,1,false⟩,⟨6,oM 13 12,63,1,false⟩,⟨7,oF 13 14 (.load true 1 (tT 5)),
 127,1,false⟩,⟨8,oF 13 15 (kC 74 [(kI 64)]),127,0,false⟩,⟨9,oF 13 16 (kC 72 [(tT 14),(tT 15)]),511,1,false⟩,⟨10,oF 13 17 (.una .not (tT 16)),1023,1,false⟩,⟨11,oO 18 (.pick (tT 13) kT (tT 17)),2047,1,false⟩]) (.cond (tT 18) (sQ (.region [oO 6 (.mov (kI 1))]) .ret) .skip)) (sQ (.region [oO 19 (.load true 4 (tT 3)),
 oO 20 (kC 28 [(tT 19),(.const (.int .u8 1))]),oM 6 20]) .ret)))
theorem ok32 : FnOk Tryz.prog 32 21 ir32 [.tmp 6] := Z8 mixed Tryz.func32 (by kernel_rfl) Tryz.ntmps32 (by kernel_rfl) (by kernel_rfl)
def ir33 : ACode := (sQ (.region [oO 4 (.mov (.const nS)),oO 5 (.mov (kI 0))]) (sQ (sQ (.region [oM 11 0,oO 12 (.len (tT 11)),oO 13 (.bin .gtr .num (tT 12) (kI 12))]) (.cond (tT 13) (sQ (.region [oO 4 (.mov (.const nS)),
 oO 5 (.mov (kI 3))]) .ret) .skip)) (sQ (.region [oO 6 (.mov (.const nS))]) (sQ (sQ (.region [oM 14 0,oO 15 (.len (tT 14)),oO 16 (.bin .shl .num (kI 1) (tT 15)),oO 17 (.mov (kI 0))]) (.block 0 (.loop (sQ (.region [oO 18 (.bin .lss .num (tT 17) (tT 16))]) (sQ (.cond (tT 18) .skip (.exit 0)) (sQ (.block 1 (sQ (.region [oM 19 17,
 oM 7 19]) (sQ (.region [oO 8 (.alloc [nS])]) (sQ (sQ (.region [oM 20 0,oO 21 (.len (tT 20)),oO 22 (.mov (kI 0))]) (.block 2 (.loop (sQ (.region [oO 23 (.bin .lss .num (tT 22) (tT 21))]) (sQ (.cond (tT 23) .skip (.exit 2)) (sQ (.block 3 (sQ (.region [oM 24 22,
 oO 25 (.iaddr 1 (tT 20) (tT 22)),oO 26 (.load false 1 (tT 25)),oM 9 24,oM 10 26]) (sQ (.region [oM 27 7,oM 28 9,oO 29 (.bin .shr .num (tT 27) (tT 28)),oO 30 (.bin .and .num (tT 29) (kI 1)),oO 31 (.bin .eql .num (tT 30) (kI 1))]) (.cond (tT 31) (.region [oO 32 (.load true 1 (tT 8)),
 oM 33 10,oO 34 (kC 75 [(tT 32),(tT 33)]),⟨none,.store 1 (tT 8) (tT 34),none⟩]) .skip)))) (.region [oO 35 (.bin .add .num (tT 22) (kI 1)),oM 22 35]))))))) (sQ (sQ (.draw [⟨0,oM 36 6,0,1,false⟩,⟨1,oO 37 (.len (tT 36)),
 1,1,false⟩,⟨2,oO 38 (.bin .gtr .num (tT 37) (kI 0)),3,1,false⟩,⟨3,oM 39 38,7,1,false⟩,⟨4,oT 39 40 (.load true 1 (tT 8)),15,0,false⟩,⟨5,oT 39 41 (kC 68 [(tT 40)]),31,0,false⟩,⟨6,oT 39 42 (.mov (tT 6)),15,
 0,false⟩,⟨7,oT 39 43 (.iaddr 1 (tT 42) (kI 0)),79,0,false⟩,⟨8,oT 39 44 (.load true 1 (tT 43)),207,0,false⟩,⟨9,oT 39 45 (kC 68 [(tT 44)]),511,1,false⟩,⟨10,oT 39 46 (.bin .gtr .num (tT 41) (tT 45)),1023,
 1,false⟩,⟨11,oO 47 (.pick (tT 39) (tT 46) kF),2047,1,false⟩,⟨12,oM 48 47,4095,1,false⟩,⟨13,oF 48 49 (.mov (tT 1)),8191,0,false⟩,⟨14,oF 48 50 (.load true 1 (tT 8)),8191,1,false⟩,⟨15,oF 48 51 (.call (tT 49) [(tT 50)]),
 32767,1,false⟩,⟨16,oF 48 52 (.una .not (tT 51)),65535,1,false⟩,⟨17,oO 53 (.pick (tT 48) kT (tT 52)),131071,1,false⟩]) (.cond (tT 53) (.exit 1) .skip)) (sQ (sQ (.draw [⟨0,oM 54 6,0,1,false⟩,⟨1,oO 55 (.len (tT 54)),
 1,1,false⟩,⟨2,oO 56 (.bin .gtr .num (tT 55) (kI 0)),3,1,false⟩,⟨3,oM 57 56,7,1,false⟩,⟨4,oT 57 58 (.load true 1 (tT 8)),15,0,false⟩,⟨5,oT 57 59 (kC 68 [(tT 58)]),31,0,false⟩,⟨6,oT 57 60 (.mov (tT 6)),15,
 0,false⟩,⟨7,oT 57 61 (.iaddr 1 (tT 60) (kI 0)),79,0,false⟩,⟨8,oT 57 62 (.load true 1 (tT 61)),207,0,false⟩,⟨9,oT 57 63 (kC 68 [(tT 62)]),511,1,false⟩,⟨10,oT 57 64 (.bin .lss .num (tT 59) (tT 63)),1023,
 1,false⟩,⟨11,oO 65 (.pick (tT 57) (tT 64) kF),2047,1,false⟩]) (.cond (tT 65) (.region [oM 66 6,oO 67 (.slc 1 (tT 66) none (some (kI 0)) none),oM 6 67]) .skip)) (.region [oM 68 6,oO 69 (.load true 1 (tT 8)),
 oO 70 (.bslice [nS] 1 [(0,(tT 69))]),oO 71 (.append [nS] 24 (tT 68) (tT 70)),oM 6 71]))))))) (.region [oO 72 (.bin .add .num (tT 17) (kI 1)),oM 17 72]))))))) (sQ (sQ (.region [oM 73 6,oO 74 (.len (tT 73)),
 oO 75 (.bin .eql .num (tT 74) (kI 0))]) (.cond (tT 75) (sQ (.region [oO 4 (.mov (.const nS)),oO 5 (.mov (kI 4))]) .ret) .skip)) (sQ (.region [oM 76 6,oO 77 (kC 76 [(tT 76),(.func 77)])]) (sQ (.region [oM 78 6,
 oM 4 78,oO 5 (.mov (kI 0))]) .ret)))))))
theorem ok33 : FnOk Tryz.prog 33 79 ir33 [.tmp 4, .tmp 5] := Z8 mixed Tryz.func33 (by kernel_rfl) Tryz.ntmps33 (by kernel_rfl) (by kernel_rfl)
def ir34 : ACode := (sQ (.region [oO 1 (.box (tT 0)),oO 2 (.mov (.const nS))]) (sQ (.region [oO 5 (.load true 1 (tT 1)),oO 6 (kC 68 [(tT 5)]),oO 7 (.mslice [(.int .i64 0)] 8 (kI 0) (tT 6)),oO 3 (.alloc [nS]),
 ⟨none,.store 1 (tT 3) (tT 7),none⟩]) (sQ (sQ (.region [oO 8 (.load true 1 (tT 1)),oO 9 (kC 41 [(tT 8)])]) (.block 0 (.range (tT 9) [10] [(4,(tT 10))] (.block 1 (.region [oO 11 (.load false 1 (tT 3)),oM 12 4,
 oO 13 (.bslice [(.int .i64 0)] 1 [(0,(tT 12))]),oO 14 (.append [(.int .i64 0)] 8 (tT 11) (tT 13)),⟨none,.store 1 (tT 3) (tT 14),none⟩]))))) (sQ (.region [oO 15 (.load false 1 (tT 3)),oM 2 15]) .ret))))
theorem ok34 : FnOk Tryz.prog 34 16 ir34 [.tmp 2] := Z8 mixed Tryz.func34 (by kernel_rfl) Tryz.ntmps34 (by kernel_rfl) (by kernel_rfl)
def ir35 : ACode := (sQ (.region [oO 4 (.box (tT 0)),oO 5 (.mov kF)]) (sQ (.draw [⟨0,oO 6 (.load true 4 (tT 1)),0,0,false⟩,⟨1,oO 7 (.load false 1 (tT 2)),0,0,false⟩,⟨2,oO 8 (.load true 1 (tT 3)),0,0,false⟩,
 ⟨3,oO 9 (.load true 1 (tT 4)),0,0,false⟩,⟨4,oO 10 (kC 38 [(tT 8),(tT 9)]),12,0,false⟩,⟨5,oO 11 (kC 37 [(tT 7),(tT 10)]),30,0,false⟩,⟨6,oO 12 (kC 36 [(tT 6),(tT 11),(.const nS)]),63,1,false⟩,⟨7,oM 5 12,
 127,1,false⟩]) .ret))
theorem ok35 : FnOk Tryz.prog 35 13 ir35 [.tmp 5] := Z8 mixed Tryz.func35 (by kernel_rfl) Tryz.ntmps35 (by kernel_rfl) (by kernel_rfl)
def ir36 : ACode := (sQ (.region [oO 3 (.box (tT 0)),oO 4 (.box (tT 1)),oO 6 (.mov kF)]) (sQ (.region [oO 10 (.load true 4 (tT 3)),oO 11 (kC 78 [(tT 10)]),oM 9 11,oO 12 (.extract (tT 9) 0),oO 13 (.extract (tT 9) 1),
 oM 7 12,oM 8 13]) (sQ (.region [oM 14 8,oO 15 (.bin .eql .num (tT 14) (kI 0)),oM 16 15,oT 16 17 (.mov (tT 7)),oT 16 18 (.bin .eql .num (tT 17) (.const (.int .u8 1))),oO 19 (.pick (tT 16) (tT 18) kF),oM 20 19,
 oT 20 21 (.load true 1 (tT 4)),oT 20 22 (.mov (tT 2)),oT 20 23 (.build [nS,nS] [(0,1,(tT 21)),(1,1,(tT 22))]),oT 20 24 (.load true 4 (tT 3)),oT 20 25 (kC 79 [(tT 23),(tT 24)]),oT 20 26 (.bin .eql .num (tT 25) (kI 1)),
 oO 27 (.pick (tT 20) (tT 26) kF),oM 6 27]) .ret)))
theorem ok36 : FnOk Tryz.prog 36 28 ir36 [.tmp 6] := Z8 mixed Tryz.func36 (by kernel_rfl) Tryz.ntmps36 (by kernel_rfl) (by kernel_rfl)
def ir37 : ACode := (sQ (.region [oO 2 (.box (tT 0)),oO 3 (.box (tT 1)),oO 4 (.alloc [nS])]) (sQ (.region [oO 5 (.alloc [nS])]) (sQ (sQ (.region [oO 7 (.load true 1 (tT 3)),oO 8 (kC 41 [(tT 7)])]) (.block 0 (.range (tT 8) [9] [(6,
 (tT 9))] (.block 1 (.draw [⟨0,oO 10 (.load true 1 (tT 5)),0,0,false⟩,⟨1,oO 11 (.load false 1 (tT 2)),0,0,false⟩,⟨2,oM 12 6,0,0,false⟩,⟨3,oO 13 (kC 80 [(tT 11),(tT 12)]),6,0,false⟩,⟨4,oO 14 (kC 39 [(tT 10),
 (tT 13)]),15,1,false⟩,⟨5,⟨none,.store 1 (tT 5) (tT 14),none⟩,31,1,false⟩]))))) (sQ (.region [oO 15 (.load true 1 (tT 5)),⟨none,.store 1 (tT 4) (tT 15),none⟩]) .ret))))
theorem ok37 : FnOk Tryz.prog 37 16 ir37 [.cell 4 true 1] := Z8 mixed Tryz.func37 (by kernel_rfl) Tryz.ntmps37 (by kernel_rfl) (by kernel_rfl)
def ir38 : ACode := (sQ (.region [oO 2 (.box (tT 0)),oO 3 (.box (tT 1)),oO 4 (.alloc [nS])]) (sQ (.region [oO 7 (.faddr 0 (tT 2)),oO 8 (.load false 1 (tT 7)),oO 9 (.len (tT 8)),oO 10 (.mslice [(.int .u64 0)] 8 (tT 9) (tT 9)),
 oM 5 10]) (sQ (sQ (.region [oM 11 5,oO 12 (.len (tT 11)),oO 13 (.mov (kI 0))]) (.block 0 (.loop (sQ (.region [oO 14 (.bin .lss .num (tT 13) (tT 12))]) (sQ (.cond (tT 14) .skip (.exit 0)) (sQ (.block 1 (sQ (.region [oM 15 13,
 oM 6 15]) (.draw [⟨0,oM 16 5,0,0,false⟩,⟨1,oM 17 6,0,0,false⟩,⟨2,oO 18 (.faddr 0 (tT 2)),0,0,false⟩,⟨3,oO 19 (.load false 1 (tT 18)),4,0,false⟩,⟨4,oM 20 6,0,0,false⟩,⟨5,oO 21 (.iaddr 1 (tT 19) (tT 20)),
 28,0,false⟩,⟨6,oO 22 (.load false 1 (tT 21)),60,0,false⟩,⟨7,oO 23 (.load true 1 (tT 3)),0,0,false⟩,⟨8,oM 24 6,0,0,false⟩,⟨9,oO 25 (kC 81 [(tT 23),(tT 24)]),384,0,false⟩,⟨10,oO 26 (.bin .andNot .num (tT 22) (tT 25)),
 1020,1,false⟩,⟨11,oO 27 (.iaddr 1 (tT 16) (tT 17)),2047,1,false⟩,⟨12,⟨none,.store 1 (tT 27) (tT 26),none⟩,4095,1,false⟩]))) (.region [oO 28 (.bin .add .num (tT 13) (kI 1)),oM 13 28]))))))) (sQ (.region [oM 29 5,
 oO 30 (kC 31 [(tT 29)]),⟨none,.store 1 (tT 4) (tT 30),none⟩]) .ret))))
theorem ok38 : FnOk Tryz.prog 38 31 ir38 [.cell 4 true 1] := Z8 mixed Tryz.func38 (by kernel_rfl) Tryz.ntmps38 (by kernel_rfl) (by kernel_rfl)
def ir39 : ACode := (sQ (.region [oO 2 (.box (tT 0)),oO 3 (.box (tT 1)),oO 4 (.alloc [nS])]) (sQ (.region [oO 7 (.faddr 0 (tT 2)),oO 8 (.load false 1 (tT 7)),oO 9 (.len (tT 8)),oO 10 (.faddr 0 (tT 3)),
 oO 11 (.load false 1 (tT 10)),oO 12 (.len (tT 11)),oO 13 (.mx (tT 9) (tT 12)),oO 14 (.mslice [(.int .u64 0)] 8 (tT 13) (tT 13)),oM 5 14]) (sQ (sQ (.region [oM 15 5,oO 16 (.len (tT 15)),oO 17 (.mov (kI 0))]) (.block 0 (.loop (sQ (.region [oO 18 (.bin .lss .num (tT 17) (tT 16))]) (sQ (.cond (tT 18) .skip (.exit 0)) (sQ (.block 1 (sQ (.region [oM 19 17,
 oM 6 19]) (.draw [⟨0,oM 20 5,0,0,false⟩,⟨1,oM 21 6,0,0,false⟩,⟨2,oO 22 (.load true 1 (tT 2)),0,0,false⟩,⟨3,oM 23 6,0,0,false⟩,⟨4,oO 24 (kC 81 [(tT 22),(tT 23)]),12,0,false⟩,⟨5,oO 25 (.load true 1 (tT 3)),
 0,0,false⟩,⟨6,oM 26 6,0,0,false⟩,⟨7,oO 27 (kC 81 [(tT 25),(tT 26)]),124,1,false⟩,⟨8,oO 28 (.bin .or .num (tT 24) (tT 27)),252,1,false⟩,⟨9,oO 29 (.iaddr 1 (tT 20) (tT 21)),511,1,false⟩,⟨10,⟨none,.store 1 (tT 29) (tT 28),
 none⟩,1023,1,false⟩]))) (.region [oO 30 (.bin .add .num (tT 17) (kI 1)),oM 17 30]))))))) (sQ (.region [oM 31 5,oO 32 (.build [nS] [(0,1,(tT 31))]),⟨none,.store 1 (tT 4) (tT 32),none⟩]) .ret))))
theorem ok39 : FnOk Tryz.prog 39 33 ir39 [.cell 4 true 1] := Z8 mixed Tryz.func39 (by kernel_rfl) Tryz.ntmps39 (by kernel_rfl) (by kernel_rfl)
def ir40 : ACode := (sQ (.region [oO 4 (.box (tT 0)),oO 5 (.mov kF)]) (sQ (.draw [⟨0,oO 6 (.load true 4 (tT 1)),0,0,false⟩,⟨1,oO 7 (.load false 1 (tT 2)),0,0,false⟩,⟨2,oO 8 (.load true 1 (tT 3)),0,0,false⟩,
 ⟨3,oO 9 (.load true 1 (tT 4)),0,0,false⟩,⟨4,oO 10 (kC 39 [(tT 8),(tT 9)]),12,0,false⟩,⟨5,oO 11 (kC 37 [(tT 7),(tT 10)]),30,0,false⟩,⟨6,oO 12 (kC 36 [(tT 6),(tT 11),(.const nS)]),63,1,false⟩,⟨7,oM 5 12,
 127,1,false⟩]) .ret))
theorem ok40 : FnOk Tryz.prog 40 13 ir40 [.tmp 5] := Z8 mixed Tryz.func40 (by kernel_rfl) Tryz.ntmps40 (by kernel_rfl) (by kernel_rfl)
def ir41 : ACode := (sQ (.region [oO 1 (.box (tT 0)),oO 2 (.mov (.const .nilFunc))]) (sQ (.region [oO 3 (.mkfn 82 [(tT 1)]),oM 2 3]) .ret))
theorem ok41 : FnOk Tryz.prog 41 4 ir41 [.tmp 2] := Z8 mixed Tryz.func41 (by kernel_rfl) Tryz.ntmps41 (by kernel_rfl) (by kernel_rfl)
def ir42 : ACode := (sQ (.region [oO 2 (.box (tT 0)),oO 4 (.mov kF)]) (sQ (.region [oM 5 1,oO 6 (.bin .geq .num (tT 5) (kI 0)),oM 7 6,oT 7 8 (.mov (tT 1)),oT 7 9 (.bin .leq .num (tT 8) (kI 4095)),oO 10 (.pick (tT 7) (tT 9) kF),
 oM 11 10,oT 11 12 (.load true 1 (tT 2)),oT 11 13 (.mov (tT 1)),oT 11 14 (.bin .quo .num (tT 13) (kI 64)),oT 11 15 (kC 81 [(tT 12),(tT 14)]),oT 11 16 (.mov (tT 1)),oT 11 17 (.bin .rem .num (tT 16) (kI 64)),
 oT 11 18 (.bin .shr .num (tT 15) (tT 17)),oT 11 19 (.bin .and .num (tT 18) (.const (.int .u64 1))),oT 11 20 (.bin .eql .num (tT 19) (.const (.int .u64 1))),oO 21 (.pick (tT 11) (tT 20) kF),oM 4 21]) .ret))
theorem ok42 : FnOk Tryz.prog 42 22 ir42 [.tmp 4] := Z8 mixed Tryz.func42 (by kernel_rfl) Tryz.ntmps42 (by kernel_rfl) (by kernel_rfl)
def ir48 : ACode := (sQ (.region [oO 0 (.mov (.const (.pointer none)))]) (sQ (.region [oO 1 (.build [nS,(.map none)] []),oO 2 (.box (tT 1)),oM 0 2]) .ret))
theorem ok48 : FnOk Tryz.prog 48 3 ir48 [.tmp 0] := Z8 mixed Tryz.func48 (by kernel_rfl) Tryz.ntmps48 (by kernel_rfl) (by kernel_rfl)
def ir49 : ACode := (sQ (.region [oO 6 (.mov (.const (.pointer none))),oO 7 (.mov (kI 0)),oO 8 (.mov (kI 0))]) (sQ (.block 0 (sQ (.region [oM 11 0,oO 12 (.bin .eql .ptr (tT 11) (.const (.pointer none))),
 oM 10 12]) (.cond (tT 10) (sQ (.region [oO 6 (.mov (.const (.pointer none))),oO 7 (.mov (kI 0)),oO 8 (.mov (kI 1))]) .ret) (sQ (.region [oM 14 1,oO 15 (kC 86 [(tT 14)]),oO 16 (.una .not (tT 15)),oM 13 16]) (.cond (tT 13) (sQ (.region [oO 6 (.mov (.const (.pointer none))),
 oO 7 (.mov (kI 0)),oO 8 (.mov (kI 9))]) .ret) (sQ (.region [oM 18 0,oO 19 (.nilck (tT 18)),oO 20 (.faddr 1 (tT 19)),oO 21 (.load false 1 (tT 20)),oM 22 1,oO 23 (.lookup (.one 2) false [(.int .i64 0)] false (tT 21) (tT 22)),
 oO 24 (.bin .gtr .num (tT 23) (kI 0)),oM 17 24]) (.cond (tT 17) (sQ (.region [oO 6 (.mov (.const (.pointer none))),oO 7 (.mov (kI 0)),oO 8 (.mov (kI 5))]) .ret) (sQ (.region [oM 26 0,oO 27 (.nilck (tT 26)),
 oO 28 (.faddr 0 (tT 27)),oO 29 (.load false 1 (tT 28)),oO 30 (.len (tT 29)),oM 31 2,oO 32 (.bin .geq .num (tT 30) (tT 31)),oM 33 32,oF 33 34 (.mov (tT 0)),oF 33 35 (.nilck (tT 34)),oF 33 36 (.faddr 0 (tT 35)),
 oF 33 37 (.load false 1 (tT 36)),oF 33 38 (.len (tT 37)),oF 33 39 (.bin .geq .num (tT 38) (kI 256)),oO 40 (.pick (tT 33) kT (tT 39)),oM 25 40]) (.cond (tT 25) (sQ (.region [oO 6 (.mov (.const (.pointer none))),
 oO 7 (.mov (kI 0)),oO 8 (.mov (kI 14))]) .ret) .skip))))))))) (sQ (.draw [⟨0,oM 41 0,0,0,false⟩,⟨1,oO 42 (.nilck (tT 41)),1,0,false⟩,⟨2,oO 43 (.faddr 0 (tT 42)),3,0,false⟩,⟨3,oO 44 (.load false 1 (tT 43)),
 7,0,false⟩,⟨4,oO 45 (kC 87 [(tT 44)]),15,0,false⟩,⟨5,oM 46 1,0,0,false⟩,⟨6,⟨(some 47),.bslice [(.string ⟨#[]⟩)] 1 [(0,(tT 46))],none⟩,32,0,false⟩,⟨7,⟨(some 48),.append [(.string ⟨#[]⟩)] 16 (tT 45) (tT 47),
 none⟩,127,254,false⟩,⟨8,oM 49 0,0,0,false⟩,⟨9,oO 50 (.nilck (tT 49)),256,0,false⟩,⟨10,oO 51 (.faddr 1 (tT 50)),768,0,false⟩,⟨11,oO 52 (.load false 1 (tT 51)),1792,0,false⟩,⟨12,oO 53 (kC 88 [(tT 52)]),4095,
 1,false⟩,⟨13,oO 54 (.build [nS,(.map none)] [(0,1,(tT 48)),(1,1,(tT 53))]),8191,1,false⟩,⟨14,oO 55 (.box (tT 54)),16383,1,false⟩,⟨15,oM 9 55,32767,1,false⟩]) (sQ (sQ (.region [oM 56 9,oO 57 (.nilck (tT 56)),
 oO 58 (.faddr 1 (tT 57)),oO 59 (.load false 1 (tT 58)),oO 60 (.isnilM false (tT 59))]) (.cond (tT 60) (.region [oM 61 9,oO 62 (.mkmap),oO 63 (.nilck (tT 61)),oO 64 (.faddr 1 (tT 63)),⟨none,.store 1 (tT 64) (tT 62),
 none⟩]) .skip)) (sQ (.draw [⟨0,oM 65 9,0,0,false⟩,⟨1,oO 66 (.nilck (tT 65)),1,0,false⟩,⟨2,oO 67 (.faddr 1 (tT 66)),3,0,false⟩,⟨3,oO 68 (.load false 1 (tT 67)),7,0,false⟩,⟨4,oM 69 1,0,0,false⟩,⟨5,oM 70 9,
 0,0,false⟩,⟨6,oO 71 (.nilck (tT 70)),32,0,false⟩,⟨7,oO 72 (.faddr 0 (tT 71)),96,0,false⟩,⟨8,oO 73 (.load false 1 (tT 72)),224,0,false⟩,⟨9,oO 74 (.len (tT 73)),480,0,false⟩,⟨10,⟨none,.mapset (.one 2) (tT 68) (tT 69) (tT 74),
 none⟩,1023,1,false⟩]) (sQ (.draw [⟨0,oM 75 9,0,0,false⟩,⟨1,oM 76 9,0,1,false⟩,⟨2,oO 77 (.nilck (tT 76)),2,1,false⟩,⟨3,oO 78 (.faddr 0 (tT 77)),6,1,false⟩,⟨4,oO 79 (.load false 1 (tT 78)),14,1,false⟩,⟨5,
 oO 80 (.len (tT 79)),30,1,false⟩,⟨6,oM 6 75,1,0,false⟩,⟨7,oM 7 80,127,1,false⟩,⟨8,oO 8 (.mov (kI 0)),255,1,false⟩]) .ret))))))
theorem ok49 : FnOk Tryz.prog 49 81 ir49 [.tmp 6, .tmp 7, .tmp 8] := Z8 mixed Tryz.func49 (by kernel_rfl) Tryz.ntmps49 (by kernel_rfl) (by kernel_rfl)
def ir50 : ACode := (sQ (.region [oO 1 (.box (tT 0)),oO 2 (.mov kF)]) (sQ (.region [oO 3 (.faddr 0 (tT 1)),oO 4 (.load false 1 (tT 3)),oO 5 (.len (tT 4)),oO 6 (.bin .eql .num (tT 5) (kI 0)),oM 2 6]) .ret))
theorem ok50 : FnOk Tryz.prog 50 7 ir50 [.tmp 2] := Z8 mixed Tryz.func50 (by kernel_rfl) Tryz.ntmps50 (by kernel_rfl) (by kernel_rfl)
def ir51 : ACode := (sQ (.region [⟨(some 4),.mov (.const (.string ⟨#[]⟩)),none⟩,oO 5 (.mov kF)]) (sQ (sQ (.region [oM 6 1,oO 7 (.bin .lss .num (tT 6) (kI 1)),oM 8 7,oF 8 9 (.mov (tT 1)),oF 8 10 (.mov (tT 0)),
 oF 8 11 (kC 89 [(tT 10)]),oF 8 12 (.bin .gtr .num (tT 9) (tT 11)),oO 13 (.pick (tT 8) kT (tT 12))]) (.cond (tT 13) (sQ (.region [⟨(some 4),.mov (.const (.string ⟨#[]⟩)),none⟩,oO 5 (.mov kF)]) .ret) .skip)) (sQ (.region [oM 14 0,
 oO 15 (.nilck (tT 14)),oO 16 (.faddr 0 (tT 15)),oO 17 (.load false 1 (tT 16)),oM 18 1,oO 19 (.bin .sub .num (tT 18) (kI 1)),oO 20 (.iaddr 1 (tT 17) (tT 19)),oO 21 (.load false 1 (tT 20)),oM 4 21,oO 5 (.mov kT)]) .ret)))
theorem ok51 : FnOk Tryz.prog 51 22 ir51 [.tmp 4, .tmp 5] := Z8 mixed Tryz.func51 (by kernel_rfl) Tryz.ntmps51 (by kernel_rfl) (by kernel_rfl)
def ir53 : ACode := (sQ (.region [oO 2 (.mov (.const nS))]) (sQ (.region [oO 3 (.mov (.const nS))]) (sQ (sQ (.region [oO 4 (.mov (kI 0))]) (.block 0 (.loop (sQ (sQ (.region [oM 5 4,oO 6 (.bin .lss .num (tT 5) (kI 64))]) (.cond (tT 6) .skip (.exit 0))) (sQ (.block 1 (sQ (.region [oM 9 0,
 oM 10 4,oO 11 (.bin .shr .num (tT 9) (tT 10)),oO 12 (.bin .rem .num (tT 11) (.const (.int .u64 2))),oO 13 (.bin .eql .num (tT 12) (.const (.int .u64 1)))]) (.cond (tT 13) (.region [oM 14 3,oM 15 4,oO 16 (.bslice [(.int .i64 0)] 1 [(0,
 (tT 15))]),oO 17 (.append [(.int .i64 0)] 8 (tT 14) (tT 16)),oM 3 17]) .skip))) (.region [oM 7 4,oO 8 (.bin .add .num (tT 7) (kI 1)),oM 4 8])))))) (sQ (.region [oM 18 3,oM 2 18]) .ret))))
theorem ok53 : FnOk Tryz.prog 53 19 ir53 [.tmp 2] := Z8 mixed Tryz.func53 (by kernel_rfl) Tryz.ntmps53 (by kernel_rfl) (by kernel_rfl)
def ir54 : ACode := (sQ (.region [⟨(some 2),.mov (.const (.string ⟨#[]⟩)),none⟩]) (sQ (sQ (.region [oM 3 0,oO 4 (.bin .lss .num (tT 3) (kI 10))]) (.cond (tT 4) (sQ (.region [oM 5 0,oM 6 0,oO 7 (.bin .add .num (tT 6) (kI 1)),
 ⟨(some 8),.slcS (.const (.string ⟨#[48,49,50,51,52,53,54,55,56,57]⟩)) (some (tT 5)) (some (tT 7)),none⟩,oM 2 8]) .ret) .skip)) (sQ (.region [oM 9 0,oO 10 (.bin .quo .num (tT 9) (kI 10)),oO 11 (kC 54 [(tT 10)]),
 oM 12 0,oO 13 (.bin .rem .num (tT 12) (kI 10)),oO 14 (kC 54 [(tT 13)]),oO 15 (.bin .add .num (tT 11) (tT 14)),oM 2 15]) .ret)))
theorem ok54 : FnOk Tryz.prog 54 16 ir54 [.tmp 2] := Z8 mixed Tryz.func54 (by kernel_rfl) Tryz.ntmps54 (by kernel_rfl) (by kernel_rfl)
def ir56 : ACode := (sQ (.region [oO 2 (.box (tT 0)),oO 3 (.box (tT 1)),oO 4 (.mov (kI 0))]) (sQ (sQ (.region [oO 5 (.iaddrA 2 1 (tT 2) (kI 0)),oO 6 (.load false 1 (tT 5)),oO 7 (.iaddrA 2 1 (tT 3) (kI 0)),
 oO 8 (.load false 1 (tT 7)),oO 9 (.bin .neq .num (tT 6) (tT 8))]) (.cond (tT 9) (sQ (.region [oO 10 (.iaddrA 2 1 (tT 2) (kI 0)),oO 11 (.load false 1 (tT 10)),oO 12 (.iaddrA 2 1 (tT 3) (kI 0)),oO 13 (.load false 1 (tT 12)),
 oO 14 (.bin .sub .num (tT 11) (tT 13)),oM 4 14]) .ret) .skip)) (sQ (.region [oO 15 (.iaddrA 2 1 (tT 2) (kI 1)),oO 16 (.load false 1 (tT 15)),oO 17 (.iaddrA 2 1 (tT 3) (kI 1)),oO 18 (.load false 1 (tT 17)),
 oO 19 (.bin .sub .num (tT 16) (tT 18)),oM 4 19]) .ret)))
theorem ok56 : FnOk Tryz.prog 56 20 ir56 [.tmp 4] := Z8 mixed Tryz.func56 (by kernel_rfl) Tryz.ntmps56 (by kernel_rfl) (by kernel_rfl)
def ir57 : ACode := (sQ (.region [oO 2 (.mov (.const nS))]) (sQ (.region [oM 3 0,oM 4 0,oO 5 (.len (tT 4)),oM 6 0,oO 7 (.len (tT 6)),oO 8 (.slc 2 (tT 3) none (some (tT 5)) (some (tT 7))),oM 2 8]) .ret))
theorem ok57 : FnOk Tryz.prog 57 9 ir57 [.tmp 2] := Z8 mixed Tryz.func57 (by kernel_rfl) Tryz.ntmps57 (by kernel_rfl) (by kernel_rfl)
def ir58 : ACode := (sQ (.region [oO 2 (.mov (.const nS))]) (sQ (sQ (.region [oM 6 0,oO 7 (.len (tT 6)),oO 8 (.bin .lss .num (tT 7) (kI 2))]) (.cond (tT 8) (sQ (.region [oM 9 0,oM 2 9]) .ret) .skip)) (sQ (sQ (.region [oO 3 (.mov (kI 1))]) (.block 0 (.loop (sQ (sQ (.region [oM 10 3,
 oM 11 0,oO 12 (.len (tT 11)),oO 13 (.bin .lss .num (tT 10) (tT 12))]) (.cond (tT 13) .skip (.exit 0))) (sQ (.block 1 (sQ (.draw [⟨0,oM 16 0,0,0,false⟩,⟨1,oM 17 3,0,0,false⟩,⟨2,oO 18 (.iaddr 2 (tT 16) (tT 17)),
 3,0,false⟩,⟨3,oO 19 (.load true 2 (tT 18)),7,0,false⟩,⟨4,oM 20 0,0,0,false⟩,⟨5,oM 21 3,0,0,false⟩,⟨6,oO 22 (.bin .sub .num (tT 21) (kI 1)),32,0,false⟩,⟨7,oO 23 (.iaddr 2 (tT 20) (tT 22)),112,0,false⟩,⟨8,
 oO 24 (.load true 2 (tT 23)),240,0,false⟩,⟨9,oO 25 (.bin .eql (.cells [0,0]) (tT 19) (tT 24)),511,1,false⟩]) (.cond (tT 25) (sQ (.region [oM 26 0,oM 27 3,oO 28 (.slc 2 (tT 26) (some (tT 27)) none none),
 oM 4 28]) (sQ (sQ (.region [oO 5 (.mov (kI 1))]) (.block 2 (.loop (sQ (sQ (.region [oM 29 5,oM 30 4,oO 31 (.len (tT 30)),oO 32 (.bin .lss .num (tT 29) (tT 31))]) (.cond (tT 32) .skip (.exit 2))) (sQ (.block 3 (sQ (.draw [⟨0,
 oM 35 4,0,0,false⟩,⟨1,oM 36 5,0,0,false⟩,⟨2,oO 37 (.iaddr 2 (tT 35) (tT 36)),3,0,false⟩,⟨3,oO 38 (.load true 2 (tT 37)),7,0,false⟩,⟨4,oM 39 4,0,0,false⟩,⟨5,oM 40 5,0,0,false⟩,⟨6,oO 41 (.bin .sub .num (tT 40) (kI 1)),
 32,0,false⟩,⟨7,oO 42 (.iaddr 2 (tT 39) (tT 41)),112,0,false⟩,⟨8,oO 43 (.load true 2 (tT 42)),240,0,false⟩,⟨9,oO 44 (.bin .neq (.cells [0,0]) (tT 38) (tT 43)),511,1,false⟩]) (.cond (tT 44) (sQ (.region [oM 45 0,
 oM 46 3,oM 47 4,oM 48 5,oO 49 (.iaddr 2 (tT 47) (tT 48)),oO 50 (.load true 2 (tT 49)),oO 51 (.iaddr 2 (tT 45) (tT 46)),⟨none,.store 2 (tT 51) (tT 50),none⟩]) (.region [oM 52 3,oO 53 (.bin .add .num (tT 52) (kI 1)),
 oM 3 53])) .skip))) (.region [oM 33 5,oO 34 (.bin .add .num (tT 33) (kI 1)),oM 5 34])))))) (sQ (.region [oM 54 0,oM 55 3,oO 56 (.slc 2 (tT 54) (some (tT 55)) none none),⟨none,.clear [(.int .i64 0),(.int .i64 0)] (tT 56),
 none⟩]) (sQ (.region [oM 57 0,oM 58 3,oO 59 (.slc 2 (tT 57) none (some (tT 58)) none),oM 2 59]) .ret)))) .skip))) (.region [oM 14 3,oO 15 (.bin .add .num (tT 14) (kI 1)),oM 3 15])))))) (sQ (.region [oM 60 0,
 oM 2 60]) .ret))))
theorem ok58 : FnOk Tryz.prog 58 61 ir58 [.tmp 2] := Z8 mixed Tryz.func58 (by kernel_rfl) Tryz.ntmps58 (by kernel_rfl) (by kernel_rfl)
def ir59 : ACode := (sQ (.region [oO 2 (.mov kF)]) (sQ (.region [oM 9 0,oO 10 (.nilck (tT 9)),oO 11 (.faddr 0 (tT 10)),oO 12 (.load false 1 (tT 11)),oO 13 (.mslice [(.int .i64 0)] 8 (tT 12) (tT 12)),oM 3 13]) (sQ (sQ (.region [oM 14 0,
 oO 15 (.nilck (tT 14)),oO 16 (.faddr 1 (tT 15)),oO 17 (.load false 1 (tT 16)),oO 18 (.len (tT 17)),oO 19 (.mov (kI 0))]) (.block 0 (.loop (sQ (.region [oO 20 (.bin .lss .num (tT 19) (tT 18))]) (sQ (.cond (tT 20) .skip (.exit 0)) (sQ (.block 1 (sQ (.region [oO 21 (.iaddr 2 (tT 17) (tT 19)),
 oO 22 (.load true 2 (tT 21)),oO 5 (.alloc [(.int .i64 0),(.int .i64 0)]),⟨none,.store 2 (tT 5) (tT 22),none⟩]) (.region [oM 23 3,oO 24 (.iaddrA 2 1 (tT 5) (kI 1)),oO 25 (.load false 1 (tT 24)),oO 26 (.iaddr 1 (tT 23) (tT 25)),
 oO 27 (.load false 1 (tT 26)),oO 28 (.bin .add .num (tT 27) (kI 1)),oO 29 (.iaddr 1 (tT 23) (tT 25)),⟨none,.store 1 (tT 29) (tT 28),none⟩]))) (.region [oO 30 (.bin .add .num (tT 19) (kI 1)),oM 19 30]))))))) (sQ (.block 2 (.loop (sQ (sQ (.draw [⟨0,
 oM 31 0,0,0,false⟩,⟨1,oO 32 (.nilck (tT 31)),1,0,false⟩,⟨2,oO 33 (.faddr 4 (tT 32)),3,0,false⟩,⟨3,oO 34 (.load false 1 (tT 33)),7,0,false⟩,⟨4,oO 35 (.len (tT 34)),15,0,false⟩,⟨5,oM 36 0,0,0,false⟩,⟨6,oO 37 (.nilck (tT 36)),
 32,0,false⟩,⟨7,oO 38 (.faddr 0 (tT 37)),96,0,false⟩,⟨8,oO 39 (.load false 1 (tT 38)),224,0,false⟩,⟨9,oO 40 (.bin .lss .num (tT 35) (tT 39)),511,1,false⟩]) (.cond (tT 40) .skip (.exit 2))) (.block 3 (sQ (.region [oM 41 3,
 oO 42 (kC 93 [(tT 41),(kI 0)]),oM 6 42]) (sQ (sQ (.region [oM 43 6,oO 44 (.bin .lss .num (tT 43) (kI 0))]) (.cond (tT 44) (sQ (.region [oO 2 (.mov kF)]) .ret) .skip)) (sQ (.region [oM 45 3,oM 46 6,oO 47 (.iaddr 1 (tT 45) (tT 46)),
 ⟨none,.store 1 (tT 47) (.const (.int .i64 (-1))),none⟩]) (sQ (.region [oM 48 0,oM 49 0,oO 50 (.nilck (tT 49)),oO 51 (.faddr 4 (tT 50)),oO 52 (.load false 1 (tT 51)),oM 53 6,oO 54 (.bslice [(.int .i64 0)] 1 [(0,
 (tT 53))]),oO 55 (.append [(.int .i64 0)] 8 (tT 52) (tT 54)),oO 56 (.nilck (tT 48)),oO 57 (.faddr 4 (tT 56)),⟨none,.store 1 (tT 57) (tT 55),none⟩]) (sQ (.region [oM 58 0,oO 59 (.nilck (tT 58)),oO 60 (.faddr 1 (tT 59)),
 oO 61 (.load false 1 (tT 60)),oO 62 (.len (tT 61)),oO 63 (.mov (kI 0))]) (.block 4 (.loop (sQ (.region [oO 64 (.bin .lss .num (tT 63) (tT 62))]) (sQ (.cond (tT 64) .skip (.exit 4)) (sQ (.block 5 (sQ (.region [oO 65 (.iaddr 2 (tT 61) (tT 63)),
 oO 66 (.load true 2 (tT 65)),oO 8 (.alloc [(.int .i64 0),(.int .i64 0)]),⟨none,.store 2 (tT 8) (tT 66),none⟩]) (sQ (.region [oO 67 (.iaddrA 2 1 (tT 8) (kI 0)),oO 68 (.load false 1 (tT 67)),oM 69 6,oO 70 (.bin .eql .num (tT 68) (tT 69))]) (.cond (tT 70) (.region [oM 71 3,
 oO 72 (.iaddrA 2 1 (tT 8) (kI 1)),oO 73 (.load false 1 (tT 72)),oO 74 (.iaddr 1 (tT 71) (tT 73)),oO 75 (.load false 1 (tT 74)),oO 76 (.bin .sub .num (tT 75) (kI 1)),oO 77 (.iaddr 1 (tT 71) (tT 73)),⟨none,
 .store 1 (tT 77) (tT 76),none⟩]) .skip)))) (.region [oO 78 (.bin .add .num (tT 63) (kI 1)),oM 63 78]))))))))))))))) (sQ (.region [oO 2 (.mov kT)]) .ret)))))
theorem ok59 : FnOk Tryz.prog 59 79 ir59 [.tmp 2] := Z8 mixed Tryz.func59 (by kernel_rfl) Tryz.ntmps59 (by kernel_rfl) (by kernel_rfl)
def ir60 : ACode := (sQ (.region [oO 1 (.box (tT 0))]) (sQ (.draw [⟨0,oO 10 (.load false 1 (tT 1)),0,0,false⟩,⟨1,oO 11 (.load false 1 (tT 1)),0,0,false⟩,⟨2,oO 12 (.load false 1 (tT 1)),0,0,false⟩,⟨3,oO 13 (.nilck (tT 12)),
 4,0,false⟩,⟨4,oO 14 (.faddr 0 (tT 13)),12,0,false⟩,⟨5,oO 15 (.load false 1 (tT 14)),28,0,false⟩,⟨6,oO 16 (.mslice [nS] 24 (tT 15) (tT 15)),60,0,false⟩,⟨7,oO 17 (.load false 1 (tT 1)),0,0,false⟩,⟨8,oO 18 (.nilck (tT 17)),
 128,0,false⟩,⟨9,oO 19 (.faddr 0 (tT 18)),384,0,false⟩,⟨10,oO 20 (.load false 1 (tT 19)),896,0,false⟩,⟨11,oO 21 (.mslice [nS] 24 (tT 20) (tT 20)),1920,0,false⟩,⟨12,oO 22 (.nilck (tT 10)),2045,0,false⟩,⟨13,
 oO 23 (.faddr 2 (tT 22)),6141,0,false⟩,⟨14,⟨none,.store 1 (tT 23) (tT 16),none⟩,14333,28666,false⟩,⟨15,oO 24 (.nilck (tT 11)),32767,1,false⟩,⟨16,oO 25 (.faddr 3 (tT 24)),65535,1,false⟩,⟨17,⟨none,.store 1 (tT 25) (tT 21),
 none⟩,131071,1,false⟩]) (sQ (.region [oO 26 (.load false 1 (tT 1)),oO 27 (.nilck (tT 26)),oO 28 (.faddr 0 (tT 27)),oO 29 (.load false 1 (tT 28)),oO 30 (.mslice [nS] 24 (tT 29) (tT 29)),oM 2 30]) (sQ (sQ (.region [oO 31 (.load false 1 (tT 1)),
 oO 32 (.nilck (tT 31)),oO 33 (.faddr 1 (tT 32)),oO 34 (.load false 1 (tT 33)),oO 35 (.len (tT 34)),oO 36 (.mov (kI 0))]) (.block 0 (.loop (sQ (.region [oO 37 (.bin .lss .num (tT 36) (tT 35))]) (sQ (.cond (tT 37) .skip (.exit 0)) (sQ (.block 1 (sQ (.region [oO 38 (.iaddr 2 (tT 34) (tT 36)),
 oO 39 (.load true 2 (tT 38)),oO 4 (.alloc [(.int .i64 0),(.int .i64 0)]),⟨none,.store 2 (tT 4) (tT 39),none⟩]) (.draw [⟨0,oM 40 2,0,0,false⟩,⟨1,oO 41 (.iaddrA 2 1 (tT 4) (kI 1)),0,0,false⟩,⟨2,oO 42 (.load false 1 (tT 41)),
 2,0,false⟩,⟨3,oM 43 2,0,0,false⟩,⟨4,oO 44 (.iaddrA 2 1 (tT 4) (kI 1)),0,0,false⟩,⟨5,oO 45 (.load false 1 (tT 44)),16,0,false⟩,⟨6,oO 46 (.iaddr 1 (tT 43) (tT 45)),56,0,false⟩,⟨7,oO 47 (.load false 1 (tT 46)),
 120,0,false⟩,⟨8,oO 48 (.iaddrA 2 1 (tT 4) (kI 0)),0,0,false⟩,⟨9,oO 49 (.load false 1 (tT 48)),256,0,false⟩,⟨10,oO 50 (.bslice [(.int .i64 0)] 1 [(0,(tT 49))]),768,0,false⟩,⟨11,oO 51 (.append [(.int .i64 0)] 8 (tT 47) (tT 50)),
 2040,4080,false⟩,⟨12,oO 52 (.iaddr 1 (tT 40) (tT 42)),4095,1,false⟩,⟨13,⟨none,.store 1 (tT 52) (tT 51),none⟩,8191,1,false⟩]))) (.region [oO 53 (.bin .add .num (tT 36) (kI 1)),oM 36 53]))))))) (sQ (.region [oO 54 (.load false 1 (tT 1)),
 oO 55 (.nilck (tT 54)),oO 56 (.faddr 4 (tT 55)),oO 57 (.load false 1 (tT 56)),oO 58 (.len (tT 57)),oO 59 (.mov (kI 0))]) (.block 2 (.loop (sQ (.region [oO 60 (.bin .lss .num (tT 59) (tT 58))]) (sQ (.cond (tT 60) .skip (.exit 2)) (sQ (.block 3 (sQ (.region [oO 61 (.iaddr 1 (tT 57) (tT 59)),
 oO 62 (.load false 1 (tT 61)),oO 6 (.alloc [(.int .i64 0)]),⟨none,.store 1 (tT 6) (tT 62),none⟩]) (sQ (sQ (.region [oM 63 2,oO 64 (.load false 1 (tT 6)),oO 65 (.iaddr 1 (tT 63) (tT 64)),oO 66 (.load false 1 (tT 65)),
 oO 67 (.len (tT 66)),oO 68 (.mov (kI 0))]) (.block 4 (.loop (sQ (.region [oO 69 (.bin .lss .num (tT 68) (tT 67))]) (sQ (.cond (tT 69) .skip (.exit 4)) (sQ (.block 5 (sQ (.region [oO 70 (.iaddr 1 (tT 66) (tT 68)),
 oO 71 (.load false 1 (tT 70)),oM 8 71]) (.draw [⟨0,oO 72 (.load false 1 (tT 1)),0,0,false⟩,⟨1,oO 73 (.nilck (tT 72)),1,0,false⟩,⟨2,oO 74 (.faddr 2 (tT 73)),3,0,false⟩,⟨3,oO 75 (.load false 1 (tT 74)),7,
 0,false⟩,⟨4,oO 76 (.load false 1 (tT 6)),0,0,false⟩,⟨5,oO 77 (.load false 1 (tT 1)),0,0,false⟩,⟨6,oO 78 (.nilck (tT 77)),32,0,false⟩,⟨7,oO 79 (.faddr 2 (tT 78)),96,0,false⟩,⟨8,oO 80 (.load false 1 (tT 79)),
 224,0,false⟩,⟨9,oO 81 (.load false 1 (tT 6)),0,0,false⟩,⟨10,oO 82 (.iaddr 1 (tT 80) (tT 81)),992,0,false⟩,⟨11,oO 83 (.load true 1 (tT 82)),2016,0,false⟩,⟨12,oO 84 (.load false 1 (tT 1)),0,0,false⟩,⟨13,
 oO 85 (.nilck (tT 84)),4096,0,false⟩,⟨14,oO 86 (.faddr 2 (tT 85)),12288,0,false⟩,⟨15,oO 87 (.load false 1 (tT 86)),28672,0,false⟩,⟨16,oM 88 8,0,0,false⟩,⟨17,oO 89 (.iaddr 1 (tT 87) (tT 88)),126976,0,false⟩,
 ⟨18,oO 90 (.load true 1 (tT 89)),258048,0,false⟩,⟨19,oO 91 (kC 39 [(tT 83),(tT 90)]),524256,0,false⟩,⟨20,oM 92 8,0,0,false⟩,⟨21,oO 93 (kC 75 [(tT 91),(tT 92)]),2097120,0,false⟩,⟨22,oO 94 (.iaddr 1 (tT 75) (tT 76)),
 4194303,1,false⟩,⟨23,⟨none,.store 1 (tT 94) (tT 93),none⟩,8388607,1,false⟩]))) (.region [oO 95 (.bin .add .num (tT 68) (kI 1)),oM 68 95]))))))) (sQ (.draw [⟨0,oO 96 (.load false 1 (tT 1)),0,0,false⟩,⟨1,
 oO 97 (.nilck (tT 96)),1,0,false⟩,⟨2,oO 98 (.faddr 2 (tT 97)),3,0,false⟩,⟨3,oO 99 (.load false 1 (tT 98)),7,0,false⟩,⟨4,oO 100 (.load false 1 (tT 6)),0,0,false⟩,⟨5,oO 101 (.iaddr 1 (tT 99) (tT 100)),31,
 1,false⟩,⟨6,oO 102 (.load true 1 (tT 101)),63,1,false⟩,⟨7,oO 103 (kC 41 [(tT 102)]),127,1,false⟩]) (.block 6 (.range (tT 103) [104] [(9,(tT 104))] (.block 7 (.draw [⟨0,oO 105 (.load false 1 (tT 1)),0,0,
 false⟩,⟨1,oO 106 (.nilck (tT 105)),1,0,false⟩,⟨2,oO 107 (.faddr 3 (tT 106)),3,0,false⟩,⟨3,oO 108 (.load false 1 (tT 107)),7,0,false⟩,⟨4,oM 109 9,0,0,false⟩,⟨5,oO 110 (.load false 1 (tT 1)),0,0,false⟩,⟨6,
 oO 111 (.nilck (tT 110)),32,0,false⟩,⟨7,oO 112 (.faddr 3 (tT 111)),96,0,false⟩,⟨8,oO 113 (.load false 1 (tT 112)),224,0,false⟩,⟨9,oM 114 9,0,0,false⟩,⟨10,oO 115 (.iaddr 1 (tT 113) (tT 114)),992,0,false⟩,
 ⟨11,oO 116 (.load true 1 (tT 115)),2016,0,false⟩,⟨12,oO 117 (.load false 1 (tT 6)),0,0,false⟩,⟨13,oO 118 (kC 75 [(tT 116),(tT 117)]),8160,0,false⟩,⟨14,oO 119 (.iaddr 1 (tT 108) (tT 109)),16383,1,false⟩,
 ⟨15,⟨none,.store 1 (tT 119) (tT 118),none⟩,32767,1,false⟩])))))))) (.region [oO 120 (.bin .add .num (tT 59) (kI 1)),oM 59 120])))))))))))
theorem ok60 : FnOk Tryz.prog 60 121 ir60 [] := Z8 mixed Tryz.func60 (by kernel_rfl) Tryz.ntmps60 (by kernel_rfl) (by kernel_rfl)
def ir61 : ACode := (sQ (.region [oO 4 (.mov kF)]) (sQ (.region [oM 5 0,oO 6 (.bin .neq .ptr (tT 5) (.const (.pointer none))),oM 7 6,oT 7 8 (.mov (tT 1)),oT 7 9 (.bin .geq .num (tT 8) (kI 0)),oO 10 (.pick (tT 7) (tT 9) kF),
 oM 11 10,oT 11 12 (.mov (tT 1)),oT 11 13 (.mov (tT 0)),oT 11 14 (.nilck (tT 13)),oT 11 15 (.faddr 0 (tT 14)),oT 11 16 (.load false 1 (tT 15)),oT 11 17 (.bin .lss .num (tT 12) (tT 16)),oO 18 (.pick (tT 11) (tT 17) kF),
 oM 4 18]) .ret))
theorem ok61 : FnOk Tryz.prog 61 19 ir61 [.tmp 4] := Z8 mixed Tryz.func61 (by kernel_rfl) Tryz.ntmps61 (by kernel_rfl) (by kernel_rfl)
def ir62 : ACode := (sQ (.region [oO 3 (.box (tT 1)),oO 4 (.mov kF)]) (sQ (.region [oM 5 0,oO 6 (.load true 2 (tT 3)),oO 7 (kC 94 [(tT 5),(tT 6)]),oO 8 (.bin .geq .num (tT 7) (kI 0)),oM 4 8]) .ret))
theorem ok62 : FnOk Tryz.prog 62 9 ir62 [.tmp 4] := Z8 mixed Tryz.func62 (by kernel_rfl) Tryz.ntmps62 (by kernel_rfl) (by kernel_rfl)
def ir63 : ACode := (sQ (.region [oO 2 (.mov (.const nS))]) (sQ (sQ (.region [oM 3 0,oO 4 (.bin .eql .ptr (tT 3) (.const (.pointer none)))]) (.cond (tT 4) (sQ (.region [oO 2 (.mov (.const nS))]) .ret) .skip)) (sQ (.region [oM 5 0,
 oO 6 (.nilck (tT 5)),oO 7 (.faddr 1 (tT 6)),oO 8 (.load false 1 (tT 7)),oO 9 (kC 95 [(tT 8)]),oM 2 9]) .ret)))
theorem ok63 : FnOk Tryz.prog 63 10 ir63 [.tmp 2] := Z8 mixed Tryz.func63 (by kernel_rfl) Tryz.ntmps63 (by kernel_rfl) (by kernel_rfl)
def ir64 : ACode := (sQ (.region [oO 2 (.box (tT 0)),oO 4 (.mov (kI 0))]) (sQ (.region [oO 8 (.load true 4 (tT 2)),oO 9 (kC 96 [(tT 8)]),oM 7 9,oO 10 (.extract (tT 7) 0),oO 11 (.extract (tT 7) 1),oM 5 10,
 oM 6 11]) (sQ (sQ (.region [oM 12 5,oO 13 (.bin .gtr .num (tT 12) (kI 10)),oM 14 13,oF 14 15 (.mov (tT 6)),oF 14 16 (.bin .gtr .num (tT 15) (kI 200)),oO 17 (.pick (tT 14) kT (tT 16))]) (.cond (tT 17) (sQ (.region [oO 4 (.mov (kI 3))]) .ret) .skip)) (sQ (.region [oO 18 (.load true 4 (tT 2)),
 oM 19 1,oO 20 (kC 97 [(tT 18),(tT 19)]),oM 4 20]) .ret))))
theorem ok64 : FnOk Tryz.prog 64 21 ir64 [.tmp 4] := Z8 mixed Tryz.func64 (by kernel_rfl) Tryz.ntmps64 (by kernel_rfl) (by kernel_rfl)
def ir65 : ACode := (sQ (.region [oO 1 (.box (tT 0)),oO 2 (.mov kF)]) (sQ (.region [oO 3 (.mov (.const (.int .u8 1)))]) (sQ (sQ (.region [oO 6 (.faddr 0 (tT 1)),oO 7 (.load false 1 (tT 6)),oO 8 (.bin .geq .num (tT 7) (.const (.int .u8 11)))]) (.cond (tT 8) (.region [oO 3 (.mov (.const (.int .u8 2)))]) .skip)) (sQ (sQ (.region [oO 9 (.faddr 3 (tT 1)),
 oO 10 (.load false 1 (tT 9)),oO 11 (.len (tT 10)),oO 12 (.mov (kI 0))]) (.block 0 (.loop (sQ (.region [oO 13 (.bin .lss .num (tT 12) (tT 11))]) (sQ (.cond (tT 13) .skip (.exit 0)) (sQ (.block 1 (sQ (.region [oO 14 (.iaddr 4 (tT 10) (tT 12)),
 oO 15 (.load true 4 (tT 14)),oO 5 (.alloc [(.int .u8 0),(.int .i64 0),nS,nS]),⟨none,.store 4 (tT 5) (tT 15),none⟩]) (sQ (.region [oO 16 (.faddr 0 (tT 5)),oO 17 (.load false 1 (tT 16)),oO 18 (kC 66 [(tT 17)]),
 oM 19 3,oO 20 (.bin .neq .num (tT 18) (tT 19)),oM 21 20,oF 21 22 (.load true 4 (tT 5)),oF 21 23 (kC 65 [(tT 22)]),oF 21 24 (.una .not (tT 23)),oO 25 (.pick (tT 21) kT (tT 24))]) (.cond (tT 25) (sQ (.region [oO 2 (.mov kF)]) .ret) .skip)))) (.region [oO 26 (.bin .add .num (tT 12) (kI 1)),
 oM 12 26]))))))) (sQ (.region [oO 2 (.mov kT)]) .ret)))))
theorem ok65 : FnOk Tryz.prog 65 27 ir65 [.tmp 2] := Z8 mixed Tryz.func65 (by kernel_rfl) Tryz.ntmps65 (by kernel_rfl) (by kernel_rfl)
def ir66 : ACode := (sQ (.region [oO 2 (.mov (.const (.int .u8 0)))]) (sQ (sQ (.region [oM 3 0]) (.block 0 (sQ (sQ (.region [oO 5 (.bin .eql .num (tT 3) (.const (.int .u8 1))),oM 4 5]) (.cond (tT 4) .skip (sQ (.region [oO 6 (.bin .eql .num (tT 3) (.const (.int .u8 5))),
 oM 4 6]) (.cond (tT 4) .skip (sQ (.region [oO 7 (.bin .eql .num (tT 3) (.const (.int .u8 6))),oM 4 7]) (.cond (tT 4) .skip (.region [oO 8 (.bin .eql .num (tT 3) (.const (.int .u8 16))),oM 4 8]))))))) (.cond (tT 4) (sQ (.region [oO 2 (.mov (.const (.int .u8 2)))]) .ret) .skip)))) (sQ (.region [oO 2 (.mov (.const (.int .u8 1)))]) .ret)))
theorem ok66 : FnOk Tryz.prog 66 9 ir66 [.tmp 2] := Z8 mixed Tryz.func66 (by kernel_rfl) Tryz.ntmps66 (by kernel_rfl) (by kernel_rfl)
def ir67 : ACode := (sQ (.region [oO 1 (.box (tT 0)),oO 2 (.alloc [nS])]) (sQ (.region [oO 6 (.faddr 2 (tT 1)),oO 7 (.load false 1 (tT 6)),oO 8 (kC 14 [(tT 7)]),oO 3 (.alloc [nS]),⟨none,.store 1 (tT 3) (tT 8),
 none⟩]) (sQ (sQ (.region [oO 9 (.faddr 3 (tT 1)),oO 10 (.load false 1 (tT 9)),oO 11 (.len (tT 10)),oO 12 (.mov (kI 0))]) (.block 0 (.loop (sQ (.region [oO 13 (.bin .lss .num (tT 12) (tT 11))]) (sQ (.cond (tT 13) .skip (.exit 0)) (sQ (.block 1 (sQ (.region [oO 14 (.iaddr 4 (tT 10) (tT 12)),
 oO 15 (.load true 4 (tT 14)),oO 5 (.alloc [(.int .u8 0),(.int .i64 0),nS,nS]),⟨none,.store 4 (tT 5) (tT 15),none⟩]) (.draw [⟨0,oO 16 (.load true 1 (tT 3)),0,0,false⟩,⟨1,oO 17 (.load true 4 (tT 5)),0,0,
 false⟩,⟨2,oO 18 (kC 67 [(tT 17)]),2,0,false⟩,⟨3,oO 19 (kC 39 [(tT 16),(tT 18)]),7,1,false⟩,⟨4,⟨none,.store 1 (tT 3) (tT 19),none⟩,15,1,false⟩]))) (.region [oO 20 (.bin .add .num (tT 12) (kI 1)),oM 12 20]))))))) (sQ (.region [oO 21 (.load true 1 (tT 3)),
 ⟨none,.store 1 (tT 2) (tT 21),none⟩]) .ret))))
theorem ok67 : FnOk Tryz.prog 67 22 ir67 [.cell 2 true 1] := Z8 mixed Tryz.func67 (by kernel_rfl) Tryz.ntmps67 (by kernel_rfl) (by kernel_rfl)
def ir68 : ACode := (sQ (.region [oO 1 (.box (tT 0)),oO 2 (.mov (kI 0))]) (sQ (.region [oO 3 (.mov (kI 0))]) (sQ (sQ (.region [oO 6 (.faddr 0 (tT 1)),oO 7 (.load false 1 (tT 6)),oO 8 (.len (tT 7)),oO 9 (.mov (kI 0))]) (.block 0 (.loop (sQ (.region [oO 10 (.bin .lss .num (tT 9) (tT 8))]) (sQ (.cond (tT 10) .skip (.exit 0)) (sQ (.block 1 (sQ (.region [oO 11 (.iaddr 1 (tT 7) (tT 9)),
 oO 12 (.load false 1 (tT 11)),oM 5 12]) (.region [oM 13 3,oM 14 5,oO 15 (kC 98 [(tT 14)]),oO 16 (.bin .add .num (tT 13) (tT 15)),oM 3 16]))) (.region [oO 17 (.bin .add .num (tT 9) (kI 1)),oM 9 17]))))))) (sQ (.region [oM 18 3,
 oM 2 18]) .ret))))
theorem ok68 : FnOk Tryz.prog 68 19 ir68 [.tmp 2] := Z8 mixed Tryz.func68 (by kernel_rfl) Tryz.ntmps68 (by kernel_rfl) (by kernel_rfl)
def ir69 : ACode := (sQ (.region [oO 4 (.mov (.const nS))]) (sQ (.region [oM 9 0,oM 10 1,oO 11 (.mkmap),oO 12 (.build [nS,.nilFunc,(.map none)] [(0,1,(tT 9)),(1,1,(tT 10)),(2,1,(tT 11))]),oO 13 (.box (tT 12)),
 oM 5 13]) (sQ (.region [oO 6 (.mov (.const nS))]) (sQ (sQ (.region [oM 14 0,oO 15 (.len (tT 14)),oO 16 (.bin .shl .num (kI 1) (tT 15)),oO 17 (.mov (kI 0))]) (.block 0 (.loop (sQ (.region [oO 18 (.bin .lss .num (tT 17) (tT 16))]) (sQ (.cond (tT 18) .skip (.exit 0)) (sQ (.block 1 (sQ (.region [oM 19 17,
 oM 7 19]) (sQ (.region [oM 20 0,oO 21 (.len (tT 20)),oO 22 (.bin .shl .num (kI 1) (tT 21)),oO 23 (.mov (kI 0))]) (.block 2 (.loop (sQ (.region [oO 24 (.bin .lss .num (tT 23) (tT 22))]) (sQ (.cond (tT 24) .skip (.exit 2)) (sQ (.block 3 (sQ (.region [oM 25 23,
 oM 8 25]) (sQ (.region [oM 26 7,oM 27 8,oO 28 (.bin .and .num (tT 26) (tT 27)),oO 29 (.bin .eql .num (tT 28) (kI 0)),oM 30 29,oT 30 31 (.mov (tT 5)),oT 30 32 (.mov (tT 7)),oT 30 33 (.mov (tT 8)),oT 30 34 (kC 99 [(tT 31),
 (tT 32),(tT 33)]),oO 35 (.pick (tT 30) (tT 34) kF)]) (.cond (tT 35) (.region [oM 36 6,oM 37 5,oM 38 7,oO 39 (kC 100 [(tT 37),(tT 38)]),oM 40 5,oM 41 8,oO 42 (kC 100 [(tT 40),(tT 41)]),oO 43 (.build [nS,
 nS] [(0,1,(tT 39)),(1,1,(tT 42))]),oO 44 (.bslice [nS,nS] 1 [(0,(tT 43))]),oO 45 (.append [nS,nS] 48 (tT 36) (tT 44)),oM 6 45]) .skip)))) (.region [oO 46 (.bin .add .num (tT 23) (kI 1)),oM 23 46]))))))))) (.region [oO 47 (.bin .add .num (tT 17) (kI 1)),
 oM 17 47]))))))) (sQ (.region [oM 48 6,oO 49 (kC 101 [(tT 48),(.func 102)])]) (sQ (.region [oM 50 6,oM 4 50]) .ret))))))
theorem ok69 : FnOk Tryz.prog 69 51 ir69 [.tmp 4] := Z8 mixed Tryz.func69 (by kernel_rfl) Tryz.ntmps69 (by kernel_rfl) (by kernel_rfl)
def ir70 : ACode := (sQ (.region [oO 2 (.box (tT 0)),oO 3 (.mov kF)]) (sQ (.region [oO 4 (.load true 4 (tT 1)),oO 5 (.load true 1 (tT 2)),oO 6 (kC 71 [(tT 4),(tT 5)]),oO 7 (.bin .eql .num (tT 6) (kI 0)),
 oM 3 7]) .ret))
theorem ok70 : FnOk Tryz.prog 70 8 ir70 [.tmp 3] := Z8 mixed Tryz.func70 (by kernel_rfl) Tryz.ntmps70 (by kernel_rfl) (by kernel_rfl)
def ir71 : ACode := (sQ (.region [oO 2 (.box (tT 0)),oO 3 (.box (tT 1)),oO 4 (.mov (kI 0))]) (sQ (.region [oO 5 (.alloc [(.int .i64 0),(.int .i64 0)])]) (sQ (sQ (.region [oO 8 (.faddr 3 (tT 2)),oO 9 (.load false 1 (tT 8)),
 oO 10 (.len (tT 9)),oO 11 (.mov (kI 0))]) (.block 0 (.loop (sQ (.region [oO 12 (.bin .lss .num (tT 11) (tT 10))]) (sQ (.cond (tT 12) .skip (.exit 0)) (sQ (.block 1 (sQ (.region [oM 13 11,oO 14 (.iaddr 4 (tT 9) (tT 11)),
 oO 15 (.load true 4 (tT 14)),oO 7 (.alloc [(.int .u8 0),(.int .i64 0),nS,nS]),oM 6 13,⟨none,.store 4 (tT 7) (tT 15),none⟩]) (.region [oM 16 6,oO 17 (.load true 4 (tT 7)),oO 18 (.load true 1 (tT 3)),oO 19 (kC 71 [(tT 17),
 (tT 18)]),oO 20 (.iaddrA 2 1 (tT 5) (tT 16)),⟨none,.store 1 (tT 20) (tT 19),none⟩]))) (.region [oO 21 (.bin .add .num (tT 11) (kI 1)),oM 11 21]))))))) (sQ (sQ (.region [oO 22 (.faddr 0 (tT 2)),oO 23 (.load false 1 (tT 22))]) (.block 2 (sQ (.region [oO 25 (.bin .eql .num (tT 23) (.const (.int .u8 1))),
 oM 24 25]) (.cond (tT 24) (sQ (.region [oO 26 (.faddr 1 (tT 2)),oO 27 (.load false 1 (tT 26)),oM 4 27]) .ret) (sQ (.region [oO 29 (.bin .eql .num (tT 23) (.const (.int .u8 2))),oM 28 29]) (.cond (tT 28) (sQ (.region [oO 4 (.mov (kI 1))]) .ret) (sQ (sQ (.region [oO 31 (.bin .eql .num (tT 23) (.const (.int .u8 4))),
 oM 30 31]) (.cond (tT 30) .skip (.region [oO 32 (.bin .eql .num (tT 23) (.const (.int .u8 5))),oM 30 32]))) (.cond (tT 30) (sQ (.region [oO 33 (.faddr 2 (tT 2)),oO 34 (.load false 1 (tT 33)),oO 35 (.load true 1 (tT 3)),
 oO 36 (kC 103 [(tT 34),(tT 35)]),oM 4 36]) .ret) (sQ (.region [oO 38 (.bin .eql .num (tT 23) (.const (.int .u8 7))),oM 37 38]) (.cond (tT 37) (sQ (.region [oO 39 (.iaddrA 2 1 (tT 5) (kI 0)),oO 40 (.load false 1 (tT 39)),
 oO 41 (.bin .sub .num (kI 1) (tT 40)),oM 4 41]) .ret) (sQ (.region [oO 43 (.bin .eql .num (tT 23) (.const (.int .u8 8))),oM 42 43]) (.cond (tT 42) (sQ (.region [oO 44 (.iaddrA 2 1 (tT 5) (kI 0)),oO 45 (.load false 1 (tT 44)),
 oO 46 (.iaddrA 2 1 (tT 5) (kI 1)),oO 47 (.load false 1 (tT 46)),oO 48 (.bin .and .num (tT 45) (tT 47)),oM 4 48]) .ret) (sQ (.region [oO 50 (.bin .eql .num (tT 23) (.const (.int .u8 9))),oM 49 50]) (.cond (tT 49) (sQ (.region [oO 51 (.iaddrA 2 1 (tT 5) (kI 0)),
 oO 52 (.load false 1 (tT 51)),oO 53 (.iaddrA 2 1 (tT 5) (kI 1)),oO 54 (.load false 1 (tT 53)),oO 55 (.bin .or .num (tT 52) (tT 54)),oM 4 55]) .ret) (sQ (.region [oO 57 (.bin .eql .num (tT 23) (.const (.int .u8 10))),
 oM 56 57]) (.cond (tT 56) (sQ (.region [oO 58 (.iaddrA 2 1 (tT 5) (kI 0)),oO 59 (.load false 1 (tT 58)),oO 60 (.bin .sub .num (kI 1) (tT 59)),oO 61 (.iaddrA 2 1 (tT 5) (kI 1)),oO 62 (.load false 1 (tT 61)),
 oO 63 (.bin .or .num (tT 60) (tT 62)),oM 4 63]) .ret) (sQ (.region [oO 65 (.bin .eql .num (tT 23) (.const (.int .u8 11))),oM 64 65]) (.cond (tT 64) (sQ (.region [oO 66 (.iaddrA 2 1 (tT 5) (kI 0)),oO 67 (.load false 1 (tT 66)),
 oO 68 (.iaddrA 2 1 (tT 5) (kI 1)),oO 69 (.load false 1 (tT 68)),oO 70 (.bin .leq .num (tT 67) (tT 69)),oO 71 (kC 104 [(tT 70)]),oM 4 71]) .ret) (sQ (.region [oO 73 (.bin .eql .num (tT 23) (.const (.int .u8 12))),
 oM 72 73]) (.cond (tT 72) (sQ (.region [oO 74 (.iaddrA 2 1 (tT 5) (kI 0)),oO 75 (.load false 1 (tT 74)),oO 76 (.iaddrA 2 1 (tT 5) (kI 1)),oO 77 (.load false 1 (tT 76)),oO 78 (.bin .lss .num (tT 75) (tT 77)),
 oO 79 (kC 104 [(tT 78)]),oM 4 79]) .ret) (sQ (.region [oO 81 (.bin .eql .num (tT 23) (.const (.int .u8 13))),oM 80 81]) (.cond (tT 80) (sQ (.region [oO 82 (.iaddrA 2 1 (tT 5) (kI 0)),oO 83 (.load false 1 (tT 82)),
 oO 84 (.iaddrA 2 1 (tT 5) (kI 1)),oO 85 (.load false 1 (tT 84)),oO 86 (.bin .geq .num (tT 83) (tT 85)),oO 87 (kC 104 [(tT 86)]),oM 4 87]) .ret) (sQ (.region [oO 89 (.bin .eql .num (tT 23) (.const (.int .u8 14))),
 oM 88 89]) (.cond (tT 88) (sQ (.region [oO 90 (.iaddrA 2 1 (tT 5) (kI 0)),oO 91 (.load false 1 (tT 90)),oO 92 (.iaddrA 2 1 (tT 5) (kI 1)),oO 93 (.load false 1 (tT 92)),oO 94 (.bin .gtr .num (tT 91) (tT 93)),
 oO 95 (kC 104 [(tT 94)]),oM 4 95]) .ret) (sQ (.region [oO 97 (.bin .eql .num (tT 23) (.const (.int .u8 15))),oM 96 97]) (.cond (tT 96) (sQ (.region [oO 98 (.iaddrA 2 1 (tT 5) (kI 0)),oO 99 (.load false 1 (tT 98)),
 oO 100 (.iaddrA 2 1 (tT 5) (kI 1)),oO 101 (.load false 1 (tT 100)),oO 102 (.bin .eql .num (tT 99) (tT 101)),oO 103 (kC 104 [(tT 102)]),oM 4 103]) .ret) (sQ (.region [oO 105 (.bin .eql .num (tT 23) (.const (.int .u8 16))),
 oM 104 105]) (.cond (tT 104) (sQ (.region [oO 106 (.iaddrA 2 1 (tT 5) (kI 0)),oO 107 (.load false 1 (tT 106)),oO 108 (.iaddrA 2 1 (tT 5) (kI 1)),oO 109 (.load false 1 (tT 108)),oO 110 (.bin .add .num (tT 107) (tT 109)),
 oM 4 110]) .ret) .skip)))))))))))))))))))))))))))) (sQ (.region [oO 4 (.mov (kI 0))]) .ret)))))
theorem ok71 : FnOk Tryz.prog 71 111 ir71 [.tmp 4] := Z8 mixed Tryz.func71 (by kernel_rfl) Tryz.ntmps71 (by kernel_rfl) (by kernel_rfl)
def ir72 : ACode := (sQ (.region [oO 2 (.box (tT 0)),oO 3 (.box (tT 1)),oO 4 (.mov kF)]) (sQ (sQ (.region [oO 7 (.faddr 0 (tT 2)),oO 8 (.load false 1 (tT 7)),oO 9 (.len (tT 8)),oO 10 (.mov (kI 0))]) (.block 0 (.loop (sQ (.region [oO 11 (.bin .lss .num (tT 10) (tT 9))]) (sQ (.cond (tT 11) .skip (.exit 0)) (sQ (.block 1 (sQ (.region [oM 12 10,
 oO 13 (.iaddr 1 (tT 8) (tT 10)),oO 14 (.load false 1 (tT 13)),oM 5 12,oM 6 14]) (sQ (.region [oM 15 6,oO 16 (.load true 1 (tT 3)),oM 17 5,oO 18 (kC 81 [(tT 16),(tT 17)]),oO 19 (.bin .andNot .num (tT 15) (tT 18)),
 oO 20 (.bin .neq .num (tT 19) (.const (.int .u64 0)))]) (.cond (tT 20) (sQ (.region [oO 4 (.mov kF)]) .ret) .skip)))) (.region [oO 21 (.bin .add .num (tT 10) (kI 1)),oM 10 21]))))))) (sQ (.region [oO 4 (.mov kT)]) .ret)))
theorem ok72 : FnOk Tryz.prog 72 22 ir72 [.tmp 4] := Z8 mixed Tryz.func72 (by kernel_rfl) Tryz.ntmps72 (by kernel_rfl) (by kernel_rfl)
def ir73 : ACode := (sQ (.region [oO 2 (.box (tT 0)),oO 3 (.box (tT 1)),oO 4 (.mov kF)]) (sQ (sQ (.region [oO 6 (.faddr 0 (tT 2)),oO 7 (.load false 1 (tT 6)),oO 8 (.len (tT 7)),oO 9 (.faddr 0 (tT 3)),oO 10 (.load false 1 (tT 9)),
 oO 11 (.len (tT 10)),oO 12 (.mn (tT 8) (tT 11)),oO 13 (.mov (kI 0))]) (.block 0 (.loop (sQ (.region [oO 14 (.bin .lss .num (tT 13) (tT 12))]) (sQ (.cond (tT 14) .skip (.exit 0)) (sQ (.block 1 (sQ (.region [oM 15 13,
 oM 5 15]) (sQ (.draw [⟨0,oO 16 (.faddr 0 (tT 2)),0,0,false⟩,⟨1,oO 17 (.load false 1 (tT 16)),1,0,false⟩,⟨2,oM 18 5,0,0,false⟩,⟨3,oO 19 (.iaddr 1 (tT 17) (tT 18)),7,0,false⟩,⟨4,oO 20 (.load false 1 (tT 19)),
 15,0,false⟩,⟨5,oO 21 (.faddr 0 (tT 3)),0,0,false⟩,⟨6,oO 22 (.load false 1 (tT 21)),32,0,false⟩,⟨7,oM 23 5,0,0,false⟩,⟨8,oO 24 (.iaddr 1 (tT 22) (tT 23)),224,0,false⟩,⟨9,oO 25 (.load false 1 (tT 24)),480,
 0,false⟩,⟨10,oO 26 (.bin .and .num (tT 20) (tT 25)),1023,1,false⟩,⟨11,oO 27 (.bin .neq .num (tT 26) (.const (.int .u64 0))),2047,1,false⟩]) (.cond (tT 27) (sQ (.region [oO 4 (.mov kT)]) .ret) .skip)))) (.region [oO 28 (.bin .add .num (tT 13) (kI 1)),
 oM 13 28]))))))) (sQ (.region [oO 4 (.mov kF)]) .ret)))
theorem ok73 : FnOk Tryz.prog 73 29 ir73 [.tmp 4] := Z8 mixed Tryz.func73 (by kernel_rfl) Tryz.ntmps73 (by kernel_rfl) (by kernel_rfl)
def ir74 : ACode := (sQ (.region [oO 2 (.alloc [nS])]) (sQ (.region [oM 5 0,oO 6 (.mx (tT 5) (kI 0)),oO 7 (.mn (tT 6) (kI 4096)),oM 0 7]) (sQ (.region [oM 8 0,oO 9 (.bin .add .num (tT 8) (kI 63)),oO 10 (.bin .quo .num (tT 9) (kI 64)),
 oO 11 (.mslice [(.int .u64 0)] 8 (tT 10) (tT 10)),oM 3 11]) (sQ (sQ (.region [oM 12 3,oO 13 (.len (tT 12)),oO 14 (.mov (kI 0))]) (.block 0 (.loop (sQ (.region [oO 15 (.bin .lss .num (tT 14) (tT 13))]) (sQ (.cond (tT 15) .skip (.exit 0)) (sQ (.block 1 (sQ (.region [oM 16 14,
 oM 4 16]) (.region [oM 17 3,oM 18 4,oO 19 (.iaddr 1 (tT 17) (tT 18)),⟨none,.store 1 (tT 19) (.const (.int .u64 18446744073709551615)),none⟩]))) (.region [oO 20 (.bin .add .num (tT 14) (kI 1)),oM 14 20]))))))) (sQ (sQ (.region [oM 21 0,
 oO 22 (.bin .rem .num (tT 21) (kI 64)),oO 23 (.bin .gtr .num (tT 22) (kI 0))]) (.cond (tT 23) (.region [oM 24 3,oM 25 3,oO 26 (.len (tT 25)),oO 27 (.bin .sub .num (tT 26) (kI 1)),oM 28 0,oO 29 (.bin .rem .num (tT 28) (kI 64)),
 oO 30 (.bin .shl .num (.const (.int .u64 1)) (tT 29)),oO 31 (.bin .sub .num (tT 30) (.const (.int .u64 1))),oO 32 (.iaddr 1 (tT 24) (tT 27)),⟨none,.store 1 (tT 32) (tT 31),none⟩]) .skip)) (sQ (.region [oM 33 3,
 oO 34 (.build [nS] [(0,1,(tT 33))]),⟨none,.store 1 (tT 2) (tT 34),none⟩]) .ret))))))
theorem ok74 : FnOk Tryz.prog 74 35 ir74 [.cell 2 true 1] := Z8 mixed Tryz.func74 (by kernel_rfl) Tryz.ntmps74 (by kernel_rfl) (by kernel_rfl)
def ir75 : ACode := (sQ (.region [oO 2 (.box (tT 0)),oO 4 (.alloc [nS])]) (sQ (sQ (.region [oM 6 1,oO 7 (.bin .lss .num (tT 6) (kI 0)),oM 8 7,oF 8 9 (.mov (tT 1)),oF 8 10 (.bin .gtr .num (tT 9) (kI 4095)),
 oO 11 (.pick (tT 8) kT (tT 10)),oM 12 11,oF 12 13 (.load true 1 (tT 2)),oF 12 14 (.mov (tT 1)),oF 12 15 (kC 42 [(tT 13),(tT 14)]),oO 16 (.pick (tT 12) kT (tT 15))]) (.cond (tT 16) (sQ (.region [oO 17 (.load true 1 (tT 2)),
 ⟨none,.store 1 (tT 4) (tT 17),none⟩]) .ret) .skip)) (sQ (.region [oO 18 (.faddr 0 (tT 2)),oO 19 (.load false 1 (tT 18)),oO 20 (.len (tT 19)),oM 21 1,oO 22 (.bin .quo .num (tT 21) (kI 64)),oO 23 (.bin .add .num (tT 22) (kI 1)),
 oO 24 (.mx (tT 20) (tT 23)),oO 25 (.mslice [(.int .u64 0)] 8 (tT 24) (tT 24)),oM 5 25]) (sQ (.region [oM 26 5,oO 27 (.faddr 0 (tT 2)),oO 28 (.load false 1 (tT 27)),oO 29 (.copy 1 (tT 26) (tT 28))]) (sQ (.draw [⟨0,
 oM 30 5,0,1,false⟩,⟨1,oM 31 1,0,1,false⟩,⟨2,oO 32 (.bin .quo .num (tT 31) (kI 64)),2,1,false⟩,⟨3,oO 33 (.iaddr 1 (tT 30) (tT 32)),7,1,false⟩,⟨4,oO 34 (.load false 1 (tT 33)),15,1,false⟩,⟨5,oM 35 1,0,0,
 false⟩,⟨6,oO 36 (.bin .rem .num (tT 35) (kI 64)),32,0,false⟩,⟨7,oO 37 (.bin .shl .num (.const (.int .u64 1)) (tT 36)),96,0,false⟩,⟨8,oO 38 (.bin .or .num (tT 34) (tT 37)),255,1,false⟩,⟨9,oO 39 (.iaddr 1 (tT 30) (tT 32)),
 511,1,false⟩,⟨10,⟨none,.store 1 (tT 39) (tT 38),none⟩,1023,1,false⟩]) (sQ (.region [oM 40 5,oO 41 (.build [nS] [(0,1,(tT 40))]),⟨none,.store 1 (tT 4) (tT 41),none⟩]) .ret))))))
theorem ok75 : FnOk Tryz.prog 75 42 ir75 [.cell 4 true 1] := Z8 mixed Tryz.func75 (by kernel_rfl) Tryz.ntmps75 (by kernel_rfl) (by kernel_rfl)
def ir77 : ACode := (sQ (.region [oO 2 (.box (tT 0)),oO 3 (.box (tT 1)),oO 4 (.mov (kI 0))]) (sQ (sQ (.region [oO 8 (.faddr 0 (tT 2)),oO 9 (.load false 1 (tT 8)),oO 10 (.len (tT 9)),oO 11 (.faddr 0 (tT 3)),
 oO 12 (.load false 1 (tT 11)),oO 13 (.len (tT 12)),oO 14 (.mx (tT 10) (tT 13)),oO 15 (.mov (kI 0))]) (.block 0 (.loop (sQ (.region [oO 16 (.bin .lss .num (tT 15) (tT 14))]) (sQ (.cond (tT 16) .skip (.exit 0)) (sQ (.block 1 (sQ (.region [oM 17 15,
 oM 5 17]) (sQ (.draw [⟨0,oO 18 (.load true 1 (tT 2)),0,0,false⟩,⟨1,oM 19 5,0,0,false⟩,⟨2,oO 20 (kC 81 [(tT 18),(tT 19)]),3,0,false⟩,⟨3,oO 21 (.load true 1 (tT 3)),0,0,false⟩,⟨4,oM 22 5,0,0,false⟩,⟨5,oO 23 (kC 81 [(tT 21),
 (tT 22)]),31,1,false⟩,⟨6,oO 24 (.bin .xor .num (tT 20) (tT 23)),63,1,false⟩,⟨7,oM 6 24,127,1,false⟩]) (sQ (sQ (.region [oM 25 6,oO 26 (.bin .eql .num (tT 25) (.const (.int .u64 0)))]) (.cond (tT 26) (.exit 1) .skip)) (sQ (.region [oM 27 5,
 oO 28 (.bin .mul .num (kI 64) (tT 27)),oM 29 6,oO 30 (kC 83 [(tT 29)]),oO 31 (.bin .add .num (tT 28) (tT 30)),oM 7 31]) (sQ (sQ (.draw [⟨0,oO 32 (.load true 1 (tT 2)),0,0,false⟩,⟨1,oM 33 7,0,0,false⟩,⟨2,
 oO 34 (kC 42 [(tT 32),(tT 33)]),3,0,false⟩,⟨3,oO 35 (.load true 1 (tT 3)),0,0,false⟩,⟨4,oM 36 7,0,0,false⟩,⟨5,oO 37 (kC 42 [(tT 35),(tT 36)]),31,1,false⟩,⟨6,oO 38 (.bin .eql .bool (tT 34) (tT 37)),63,1,
 false⟩]) (.cond (tT 38) (sQ (.region [oO 4 (.mov (kI 0))]) .ret) .skip)) (sQ (sQ (.region [oO 39 (.load true 1 (tT 2)),oM 40 7,oO 41 (kC 42 [(tT 39),(tT 40)]),oM 42 41,oT 42 43 (.load true 1 (tT 3)),oT 42 44 (.mov (tT 7)),
 oT 42 45 (kC 106 [(tT 43),(tT 44)]),oO 46 (.pick (tT 42) (tT 45) kF),oM 47 46,oF 47 48 (.load true 1 (tT 3)),oF 47 49 (.mov (tT 7)),oF 47 50 (kC 42 [(tT 48),(tT 49)]),oF 47 51 (.mov (tT 50)),oT 51 52 (.load true 1 (tT 2)),
 oT 51 53 (.mov (tT 7)),oT 51 54 (kC 106 [(tT 52),(tT 53)]),oT 51 55 (.una .not (tT 54)),oF 47 56 (.pick (tT 51) (tT 55) kF),oO 57 (.pick (tT 47) kT (tT 56))]) (.cond (tT 57) (sQ (.region [oO 4 (.mov (.const (.int .i64 (-1))))]) .ret) .skip)) (sQ (.region [oO 4 (.mov (kI 1))]) .ret)))))))) (.region [oO 58 (.bin .add .num (tT 15) (kI 1)),
 oM 15 58]))))))) (sQ (.region [oO 4 (.mov (kI 0))]) .ret)))
theorem ok77 : FnOk Tryz.prog 77 59 ir77 [.tmp 4] := Z8 mixed Tryz.func77 (by kernel_rfl) Tryz.ntmps77 (by kernel_rfl) (by kernel_rfl)
def ir78 : ACode := (sQ (.region [oO 1 (.box (tT 0)),oO 2 (.mov (.const (.int .u8 0))),oO 3 (.mov (kI 0))]) (sQ (sQ (.region [oO 5 (.load true 4 (tT 1)),oO 6 (kC 64 [(tT 5),(.const (.int .u8 0))]),oM 4 6]) (sQ (.region [oM 7 4,
 oO 8 (.bin .neq .num (tT 7) (kI 0))]) (.cond (tT 8) (sQ (.region [oM 9 4,oO 2 (.mov (.const (.int .u8 0))),oM 3 9]) .ret) .skip))) (sQ (sQ (.region [oO 10 (.load true 4 (tT 1)),oO 11 (kC 65 [(tT 10)]),
 oO 12 (.una .not (tT 11))]) (.cond (tT 12) (sQ (.region [oO 2 (.mov (.const (.int .u8 0))),oO 3 (.mov (kI 10))]) .ret) .skip)) (sQ (.region [oO 13 (.faddr 0 (tT 1)),oO 14 (.load false 1 (tT 13)),oO 15 (kC 66 [(tT 14)]),
 oM 2 15,oO 3 (.mov (kI 0))]) .ret))))
theorem ok78 : FnOk Tryz.prog 78 16 ir78 [.tmp 2, .tmp 3] := Z8 mixed Tryz.func78 (by kernel_rfl) Tryz.ntmps78 (by kernel_rfl) (by kernel_rfl)
def ir79 : ACode := (sQ (.region [oO 2 (.box (tT 0)),oO 3 (.box (tT 1)),oO 4 (.mov (kI 0))]) (sQ (sQ (.region [oO 10 (.faddr 0 (tT 3)),oO 11 (.load false 1 (tT 10))]) (.block 0 (sQ (.region [oO 13 (.bin .eql .num (tT 11) (.const (.int .u8 1))),
 oM 12 13]) (.cond (tT 12) (sQ (.region [oO 14 (.faddr 1 (tT 3)),oO 15 (.load false 1 (tT 14)),oM 4 15]) .ret) (sQ (.region [oO 17 (.bin .eql .num (tT 11) (.const (.int .u8 2))),oM 16 17]) (.cond (tT 16) (sQ (.region [oO 4 (.mov (kI 1))]) .ret) (sQ (.region [oO 19 (.bin .eql .num (tT 11) (.const (.int .u8 3))),
 oM 18 19]) (.cond (tT 18) (sQ (.region [oO 4 (.mov (kI 0))]) .ret) (sQ (sQ (.region [oO 21 (.bin .eql .num (tT 11) (.const (.int .u8 4))),oM 20 21]) (.cond (tT 20) .skip (.region [oO 22 (.bin .eql .num (tT 11) (.const (.int .u8 5))),
 oM 20 22]))) (.cond (tT 20) (sQ (.region [oO 5 (.mov (kI 0))]) (sQ (sQ (.region [oO 23 (.faddr 2 (tT 3)),oO 24 (.load false 1 (tT 23)),oO 25 (.len (tT 24)),oO 26 (.mov (kI 0))]) (.block 1 (.loop (sQ (.region [oO 27 (.bin .lss .num (tT 26) (tT 25))]) (sQ (.cond (tT 27) .skip (.exit 1)) (sQ (.block 2 (sQ (.region [oO 28 (.iaddr 1 (tT 24) (tT 26)),
 oO 29 (.load false 1 (tT 28)),oM 7 29]) (.region [oM 30 5,oO 31 (.faddr 0 (tT 2)),oO 32 (.load true 1 (tT 31)),oM 33 7,oO 34 (kC 42 [(tT 32),(tT 33)]),oO 35 (kC 107 [(tT 34)]),oO 36 (.bin .add .num (tT 30) (tT 35)),
 oM 5 36]))) (.region [oO 37 (.bin .add .num (tT 26) (kI 1)),oM 26 37]))))))) (sQ (.region [oM 38 5,oM 4 38]) .ret))) (sQ (.region [oO 40 (.bin .eql .num (tT 11) (.const (.int .u8 6))),oM 39 40]) (.cond (tT 39) (sQ (.draw [⟨0,
 oO 41 (.load true 2 (tT 2)),0,0,false⟩,⟨1,oO 42 (.faddr 2 (tT 3)),0,0,false⟩,⟨2,oO 43 (.load false 1 (tT 42)),2,0,false⟩,⟨3,oO 44 (.iaddr 1 (tT 43) (kI 0)),6,0,false⟩,⟨4,oO 45 (.load false 1 (tT 44)),14,
 0,false⟩,⟨5,oO 46 (kC 108 [(tT 41),(tT 45)]),31,1,false⟩,⟨6,oM 4 46,63,1,false⟩]) .ret) (sQ (.region [oO 48 (.bin .eql .num (tT 11) (.const (.int .u8 7))),oM 47 48]) (.cond (tT 47) (sQ (.draw [⟨0,oO 49 (.load true 2 (tT 2)),
 0,0,false⟩,⟨1,oO 50 (.faddr 3 (tT 3)),0,0,false⟩,⟨2,oO 51 (.load false 1 (tT 50)),2,0,false⟩,⟨3,oO 52 (.iaddr 4 (tT 51) (kI 0)),6,0,false⟩,⟨4,oO 53 (.load true 4 (tT 52)),14,0,false⟩,⟨5,oO 54 (kC 79 [(tT 49),
 (tT 53)]),31,1,false⟩,⟨6,oO 55 (.bin .sub .num (kI 1) (tT 54)),63,1,false⟩,⟨7,oM 4 55,127,1,false⟩]) .ret) .skip)))))))))))))) (sQ (.draw [⟨0,oO 56 (.load true 2 (tT 2)),0,0,false⟩,⟨1,oO 57 (.faddr 3 (tT 3)),
 0,0,false⟩,⟨2,oO 58 (.load false 1 (tT 57)),2,0,false⟩,⟨3,oO 59 (.iaddr 4 (tT 58) (kI 0)),6,0,false⟩,⟨4,oO 60 (.load true 4 (tT 59)),14,0,false⟩,⟨5,oO 61 (kC 79 [(tT 56),(tT 60)]),31,0,false⟩,⟨6,oO 62 (.load true 2 (tT 2)),
 0,0,false⟩,⟨7,oO 63 (.faddr 3 (tT 3)),0,0,false⟩,⟨8,oO 64 (.load false 1 (tT 63)),128,0,false⟩,⟨9,oO 65 (.iaddr 4 (tT 64) (kI 1)),384,0,false⟩,⟨10,oO 66 (.load true 4 (tT 65)),896,0,false⟩,⟨11,oO 67 (kC 79 [(tT 62),
 (tT 66)]),2047,1,false⟩,⟨12,oM 8 61,4095,1,false⟩,⟨13,oM 9 67,8191,1,false⟩]) (sQ (sQ (.region [oO 68 (.faddr 0 (tT 3)),oO 69 (.load false 1 (tT 68))]) (.block 3 (sQ (.region [oO 71 (.bin .eql .num (tT 69) (.const (.int .u8 8))),
 oM 70 71]) (.cond (tT 70) (sQ (.region [oM 72 8,oM 73 9,oO 74 (.bin .mul .num (tT 72) (tT 73)),oM 4 74]) .ret) (sQ (.region [oO 76 (.bin .eql .num (tT 69) (.const (.int .u8 9))),oM 75 76]) (.cond (tT 75) (sQ (.region [oM 77 8,
 oM 78 9,oO 79 (.mx (tT 77) (tT 78)),oM 4 79]) .ret) (sQ (.region [oO 81 (.bin .eql .num (tT 69) (.const (.int .u8 10))),oM 80 81]) (.cond (tT 80) (sQ (.region [oM 82 8,oO 83 (.bin .sub .num (kI 1) (tT 82)),
 oM 84 9,oO 85 (.mx (tT 83) (tT 84)),oM 4 85]) .ret) (sQ (.region [oO 87 (.bin .eql .num (tT 69) (.const (.int .u8 11))),oM 86 87]) (.cond (tT 86) (sQ (.region [oM 88 8,oM 89 9,oO 90 (.bin .leq .num (tT 88) (tT 89)),
 oO 91 (kC 107 [(tT 90)]),oM 4 91]) .ret) (sQ (.region [oO 93 (.bin .eql .num (tT 69) (.const (.int .u8 12))),oM 92 93]) (.cond (tT 92) (sQ (.region [oM 94 8,oM 95 9,oO 96 (.bin .lss .num (tT 94) (tT 95)),
 oO 97 (kC 107 [(tT 96)]),oM 4 97]) .ret) (sQ (.region [oO 99 (.bin .eql .num (tT 69) (.const (.int .u8 13))),oM 98 99]) (.cond (tT 98) (sQ (.region [oM 100 8,oM 101 9,oO 102 (.bin .geq .num (tT 100) (tT 101)),
 oO 103 (kC 107 [(tT 102)]),oM 4 103]) .ret) (sQ (.region [oO 105 (.bin .eql .num (tT 69) (.const (.int .u8 14))),oM 104 105]) (.cond (tT 104) (sQ (.region [oM 106 8,oM 107 9,oO 108 (.bin .gtr .num (tT 106) (tT 107)),
 oO 109 (kC 107 [(tT 108)]),oM 4 109]) .ret) (sQ (.region [oO 111 (.bin .eql .num (tT 69) (.const (.int .u8 15))),oM 110 111]) (.cond (tT 110) (sQ (.region [oM 112 8,oM 113 9,oO 114 (.bin .eql .num (tT 112) (tT 113)),
 oO 115 (kC 107 [(tT 114)]),oM 4 115]) .ret) .skip)))))))))))))))))) (sQ (.region [oM 116 8,oM 117 9,oO 118 (.bin .add .num (tT 116) (tT 117)),oM 4 118]) .ret)))))
theorem ok79 : FnOk Tryz.prog 79 119 ir79 [.tmp 4] := Z8 mixed Tryz.func79 (by kernel_rfl) Tryz.ntmps79 (by kernel_rfl) (by kernel_rfl)
def ir80 : ACode := (sQ (.region [oO 4 (.alloc [nS])]) (sQ (sQ (.region [oM 5 0,oO 6 (.bin .eql .ptr (tT 5) (.const (.pointer none))),oM 7 6,oF 7 8 (.mov (tT 1)),oF 7 9 (kC 26 [(tT 8)]),oF 7 10 (.una .not (tT 9)),
 oO 11 (.pick (tT 7) kT (tT 10))]) (.cond (tT 11) (sQ (.region [oO 12 (.build [nS] []),⟨none,.store 1 (tT 4) (tT 12),none⟩]) .ret) .skip)) (sQ (.region [oM 13 0,oO 14 (.nilck (tT 13)),oO 15 (.faddr 0 (tT 14)),
 oO 16 (.load false 1 (tT 15)),oM 17 1,oO 18 (kC 109 [(tT 16),(tT 17)]),oM 19 1,oO 20 (kC 75 [(tT 18),(tT 19)]),⟨none,.store 1 (tT 4) (tT 20),none⟩]) .ret)))
theorem ok80 : FnOk Tryz.prog 80 21 ir80 [.cell 4 true 1] := Z8 mixed Tryz.func80 (by kernel_rfl) Tryz.ntmps80 (by kernel_rfl) (by kernel_rfl)
def ir81 : ACode := (sQ (.region [oO 2 (.box (tT 0)),oO 4 (.mov (.const (.int .u64 0)))]) (sQ (sQ (.region [oM 5 1,oO 6 (.faddr 0 (tT 2)),oO 7 (.load false 1 (tT 6)),oO 8 (.len (tT 7)),oO 9 (.bin .lss .num (tT 5) (tT 8))]) (.cond (tT 9) (sQ (.region [oO 10 (.faddr 0 (tT 2)),
 oO 11 (.load false 1 (tT 10)),oM 12 1,oO 13 (.iaddr 1 (tT 11) (tT 12)),oO 14 (.load false 1 (tT 13)),oM 4 14]) .ret) .skip)) (sQ (.region [oO 4 (.mov (.const (.int .u64 0)))]) .ret)))
theorem ok81 : FnOk Tryz.prog 81 15 ir81 [.tmp 4] := Z8 mixed Tryz.func81 (by kernel_rfl) Tryz.ntmps81 (by kernel_rfl) (by kernel_rfl)
def ir82 : ACode := (sQ (.region [oO 5 (.faddr 0 (tT 1)),oO 6 (.load false 1 (tT 5)),oO 7 (.len (tT 6)),oO 8 (.mov (kI 0))]) (.block 0 (.loop (sQ (.region [oO 9 (.bin .lss .num (tT 8) (tT 7))]) (sQ (.cond (tT 9) .skip (.exit 0)) (sQ (.block 1 (sQ (.region [oM 10 8,
 oO 11 (.iaddr 1 (tT 6) (tT 8)),oO 12 (.load false 1 (tT 11)),oM 3 10,oM 4 12]) (.block 2 (.loop (sQ (sQ (.region [oM 13 4,oO 14 (.bin .neq .num (tT 13) (.const (.int .u64 0)))]) (.cond (tT 14) .skip (.exit 2))) (sQ (.block 3 (sQ (.region [oM 19 0,
 oM 20 3,oO 21 (.bin .mul .num (kI 64) (tT 20)),oM 22 4,oO 23 (kC 83 [(tT 22)]),oO 24 (.bin .add .num (tT 21) (tT 23)),oO 25 (.call (tT 19) [(tT 24)]),oO 26 (.una .not (tT 25))]) (.cond (tT 26) .ret .skip))) (.region [oM 15 4,
 oM 16 4,oO 17 (.bin .sub .num (tT 16) (.const (.int .u64 1))),oO 18 (.bin .and .num (tT 15) (tT 17)),oM 4 18]))))))) (.region [oO 27 (.bin .add .num (tT 8) (kI 1)),oM 8 27])))))))
theorem ok82 : FnOk Tryz.prog 82 28 ir82 [] := Z8 mixed Tryz.func82 (by kernel_rfl) Tryz.ntmps82 (by kernel_rfl) (by kernel_rfl)
def ir83 : ACode := (sQ (.region [oO 2 (.mov (kI 0))]) (sQ (sQ (.region [oM 3 0,oO 4 (.bin .eql .num (tT 3) (.const (.int .u64 0)))]) (.cond (tT 4) (sQ (.region [oO 2 (.mov (kI 64))]) .ret) .skip)) (sQ (.region [oM 5 0,
 oM 6 0,oO 7 (.una .neg (tT 6)),oO 8 (.bin .and .num (tT 5) (tT 7)),oO 9 (.bin .mul .num (tT 8) (.const (.int .u64 285870213051353865))),oO 10 (.bin .shr .num (tT 9) (.const (.int .u64 58))),oO 11 (.iaddrA 64 1 (.global 0) (tT 10)),
 oO 12 (.load false 1 (tT 11)),oO 13 (.conv .i64 (tT 12)),oM 2 13]) .ret)))
theorem ok83 : FnOk Tryz.prog 83 14 ir83 [.tmp 2] := Z8 mixed Tryz.func83 (by kernel_rfl) Tryz.ntmps83 (by kernel_rfl) (by kernel_rfl)
def ir86 : ACode := (sQ (.region [oO 2 (.mov kF)]) (sQ (sQ (.region [oM 6 0,oO 7 (.lenS (tT 6)),oO 8 (.bin .eql .num (tT 7) (kI 0)),oM 9 8,oF 9 10 (.mov (tT 0)),oF 9 11 (.lenS (tT 10)),oF 9 12 (.bin .gtr .num (tT 11) (kI 12)),
 oO 13 (.pick (tT 9) kT (tT 12)),oM 14 13,oF 14 15 (kC 113 []),oF 14 16 (.mov (tT 0)),oF 14 17 (kC 112 [(tT 15),(tT 16)]),oO 18 (.pick (tT 14) kT (tT 17))]) (.cond (tT 18) (sQ (.region [oO 2 (.mov kF)]) .ret) .skip)) (sQ (.region [oO 3 (.alloc [.nilFunc]),
 ⟨none,.store 1 (tT 3) (.func 114),none⟩]) (sQ (.region [oO 19 (.mkfn 115 [(tT 3)]),oM 4 19]) (sQ (sQ (.region [oM 20 0,oO 21 (.lenS (tT 20)),oO 22 (.mov (kI 0))]) (.block 0 (.loop (sQ (.region [oO 23 (.bin .lss .num (tT 22) (tT 21))]) (sQ (.cond (tT 23) .skip (.exit 0)) (sQ (.block 1 (sQ (.region [oM 24 22,
 oM 5 24]) (sQ (.draw [⟨0,oM 25 4,0,1,false⟩,⟨1,oM 26 0,0,1,false⟩,⟨2,oM 27 5,0,1,false⟩,⟨3,oO 28 (.indexS (tT 26) (tT 27)),6,1,false⟩,⟨4,oO 29 (.call (tT 25) [(tT 28)]),15,1,false⟩,⟨5,oO 30 (.una .not (tT 29)),
 31,1,false⟩,⟨6,oM 31 30,63,1,false⟩,⟨7,oF 31 32 (.mov (tT 5)),127,1,false⟩,⟨8,oF 31 33 (.bin .eql .num (tT 32) (kI 0)),255,1,false⟩,⟨9,oF 31 34 (.mov (tT 33)),511,1,false⟩,⟨10,oT 34 35 (.load false 1 (tT 3)),
 1023,1,false⟩,⟨11,oT 34 36 (.mov (tT 0)),1023,0,false⟩,⟨12,oT 34 37 (.mov (tT 5)),1023,0,false⟩,⟨13,oT 34 38 (.indexS (tT 36) (tT 37)),7167,0,false⟩,⟨14,oT 34 39 (.call (tT 35) [(tT 38)]),16383,1,false⟩,
 ⟨15,oT 34 40 (.una .not (tT 39)),32767,1,false⟩,⟨16,oF 31 41 (.pick (tT 34) (tT 40) kF),65535,1,false⟩,⟨17,oO 42 (.pick (tT 31) kT (tT 41)),131071,1,false⟩]) (.cond (tT 42) (sQ (.region [oO 2 (.mov kF)]) .ret) .skip)))) (.region [oO 43 (.bin .add .num (tT 22) (kI 1)),
 oM 22 43]))))))) (sQ (.region [oO 2 (.mov kT)]) .ret))))))
theorem ok86 : FnOk Tryz.prog 86 44 ir86 [.tmp 2] := Z8 mixed Tryz.func86 (by kernel_rfl) Tryz.ntmps86 (by kernel_rfl) (by kernel_rfl)
def ir87 : ACode := (sQ (.region [oO 2 (.mov (.const nS))]) (sQ (sQ (.region [oM 3 0,oO 4 (.isnil false (tT 3))]) (.cond (tT 4) (sQ (.region [oO 2 (.mov (.const nS))]) .ret) .skip)) (sQ (.region [⟨(some 5),
 .bslice [(.string ⟨#[]⟩)] 0 [],none⟩,oM 6 0,⟨(some 7),.append [(.string ⟨#[]⟩)] 16 (tT 5) (tT 6),none⟩,oM 2 7]) .ret)))
theorem ok87 : FnOk Tryz.prog 87 8 ir87 [.tmp 2] := Z8 mixed Tryz.func87 (by kernel_rfl) Tryz.ntmps87 (by kernel_rfl) (by kernel_rfl)
def ir88 : ACode := (sQ (.region [oO 2 (.mov (.const (.map none)))]) (sQ (sQ (.region [oM 3 0,oO 4 (.isnilM false (tT 3))]) (.cond (tT 4) (sQ (.region [oO 2 (.mov (.const (.map none)))]) .ret) .skip)) (sQ .bad .ret)))
theorem ok88 : FnOk Tryz.prog 88 9 ir88 [.tmp 2] := Z8 mixed Tryz.func88 (by kernel_rfl) Tryz.ntmps88 (by kernel_rfl) (by kernel_rfl)
def ir89 : ACode := (sQ (.region [oO 2 (.mov (kI 0))]) (sQ (sQ (.region [oM 3 0,oO 4 (.bin .eql .ptr (tT 3) (.const (.pointer none)))]) (.cond (tT 4) (sQ (.region [oO 2 (.mov (kI 0))]) .ret) .skip)) (sQ (.region [oM 5 0,
 oO 6 (.nilck (tT 5)),oO 7 (.faddr 0 (tT 6)),oO 8 (.load false 1 (tT 7)),oO 9 (.len (tT 8)),oM 2 9]) .ret)))
theorem ok89 : FnOk Tryz.prog 89 10 ir89 [.tmp 2] := Z8 mixed Tryz.func89 (by kernel_rfl) Tryz.ntmps89 (by kernel_rfl) (by kernel_rfl)
def ir93 : ACode := (sQ (.region [oO 4 (.mov (kI 0))]) (sQ (sQ (.region [oM 6 0,oO 7 (.len (tT 6)),oO 8 (.mov (kI 0))]) (.block 0 (.loop (sQ (.region [oO 9 (.bin .lss .num (tT 8) (tT 7))]) (sQ (.cond (tT 9) .skip (.exit 0)) (sQ (.block 1 (sQ (.region [oM 10 8,
 oM 5 10]) (sQ (.region [oM 11 1,oM 12 0,oM 13 5,oO 14 (.iaddr 1 (tT 12) (tT 13)),oO 15 (.load false 1 (tT 14)),oO 16 (.bin .eql .num (tT 11) (tT 15))]) (.cond (tT 16) (sQ (.region [oM 17 5,oM 4 17]) .ret) .skip)))) (.region [oO 18 (.bin .add .num (tT 8) (kI 1)),
 oM 8 18]))))))) (sQ (.region [oO 4 (.mov (.const (.int .i64 (-1))))]) .ret)))
theorem ok93 : FnOk Tryz.prog 93 19 ir93 [.tmp 4] := Z8 mixed Tryz.func93 (by kernel_rfl) Tryz.ntmps93 (by kernel_rfl) (by kernel_rfl)
def ir94 : ACode := (sQ (.region [oO 3 (.box (tT 1)),oO 4 (.mov (kI 0))]) (sQ (sQ (.region [oM 6 0,oO 7 (.len (tT 6)),oO 8 (.mov (kI 0))]) (.block 0 (.loop (sQ (.region [oO 9 (.bin .lss .num (tT 8) (tT 7))]) (sQ (.cond (tT 9) .skip (.exit 0)) (sQ (.block 1 (sQ (.region [oM 10 8,
 oM 5 10]) (sQ (.draw [⟨0,oO 11 (.load true 2 (tT 3)),0,0,false⟩,⟨1,oM 12 0,0,0,false⟩,⟨2,oM 13 5,0,0,false⟩,⟨3,oO 14 (.iaddr 2 (tT 12) (tT 13)),6,0,false⟩,⟨4,oO 15 (.load true 2 (tT 14)),14,0,false⟩,⟨5,
 oO 16 (.bin .eql (.cells [0,0]) (tT 11) (tT 15)),31,1,false⟩]) (.cond (tT 16) (sQ (.region [oM 17 5,oM 4 17]) .ret) .skip)))) (.region [oO 18 (.bin .add .num (tT 8) (kI 1)),oM 8 18]))))))) (sQ (.region [oO 4 (.mov (.const (.int .i64 (-1))))]) .ret)))
theorem ok94 : FnOk Tryz.prog 94 19 ir94 [.tmp 4] := Z8 mixed Tryz.func94 (by kernel_rfl) Tryz.ntmps94 (by kernel_rfl) (by kernel_rfl)
def ir95 : ACode := (sQ (.region [oO 2 (.mov (.const nS))]) (sQ (sQ (.region [oM 3 0,oO 4 (.isnil false (tT 3))]) (.cond (tT 4) (sQ (.region [oO 2 (.mov (.const nS))]) .ret) .skip)) (sQ (.region [oO 5 (.bslice [(.int .i64 0),
 (.int .i64 0)] 0 []),oM 6 0,oO 7 (.append [(.int .i64 0),(.int .i64 0)] 16 (tT 5) (tT 6)),oM 2 7]) .ret)))
theorem ok95 : FnOk Tryz.prog 95 8 ir95 [.tmp 2] := Z8 mixed Tryz.func95 (by kernel_rfl) Tryz.ntmps95 (by kernel_rfl) (by kernel_rfl)
def ir96 : ACode := (sQ (.region [oO 1 (.box (tT 0)),oO 2 (.mov (kI 0)),oO 3 (.mov (kI 0))]) (sQ (sQ (.region [oO 8 (.faddr 3 (tT 1)),oO 9 (.load false 1 (tT 8)),oO 10 (.len (tT 9)),oO 11 (.mov (kI 0))]) (.block 0 (.loop (sQ (.region [oO 12 (.bin .lss .num (tT 11) (tT 10))]) (sQ (.cond (tT 12) .skip (.exit 0)) (sQ (.block 1 (sQ (.region [oO 13 (.iaddr 4 (tT 9) (tT 11)),
 oO 14 (.load true 4 (tT 13)),oO 5 (.alloc [(.int .u8 0),(.int .i64 0),nS,nS]),⟨none,.store 4 (tT 5) (tT 14),none⟩]) (sQ (.region [oO 16 (.load true 4 (tT 5)),oO 17 (kC 96 [(tT 16)]),oM 15 17,oO 18 (.extract (tT 15) 0),
 oO 19 (.extract (tT 15) 1),oM 6 18,oM 7 19]) (.region [oM 20 2,oM 21 6,oO 22 (.mx (tT 20) (tT 21)),oM 23 3,oM 24 7,oO 25 (.bin .add .num (tT 23) (tT 24)),oM 2 22,oM 3 25])))) (.region [oO 26 (.bin .add .num (tT 11) (kI 1)),
 oM 11 26]))))))) (sQ (.region [oM 27 2,oO 28 (.bin .add .num (tT 27) (kI 1)),oM 29 3,oO 30 (.bin .add .num (tT 29) (kI 1)),oM 2 28,oM 3 30]) .ret)))
theorem ok96 : FnOk Tryz.prog 96 31 ir96 [.tmp 2, .tmp 3] := Z8 mixed Tryz.func96 (by kernel_rfl) Tryz.ntmps96 (by kernel_rfl) (by kernel_rfl)
def ir97 : ACode := (sQ (.region [oO 2 (.box (tT 0)),oO 4 (.mov (kI 0))]) (sQ (sQ (.region [oO 10 (.load true 4 (tT 2)),oO 11 (kC 128 [(tT 10)]),oM 5 11]) (sQ (.region [oM 12 5,oO 13 (.bin .neq .num (tT 12) (kI 0))]) (.cond (tT 13) (sQ (.region [oM 14 5,
 oM 4 14]) .ret) .skip))) (sQ (.region [oO 15 (.faddr 0 (tT 2)),oO 16 (.load false 1 (tT 15)),oO 17 (.bin .eql .num (tT 16) (.const (.int .u8 4))),oM 18 17,oF 18 19 (.faddr 0 (tT 2)),oF 18 20 (.load false 1 (tT 19)),
 oF 18 21 (.bin .eql .num (tT 20) (.const (.int .u8 5))),oO 22 (.pick (tT 18) kT (tT 21)),oM 6 22]) (sQ (sQ (.region [oM 23 1,oO 24 (.bin .eql .num (tT 23) (.const (.int .u8 3))),oM 25 24,oT 25 26 (.mov (tT 6)),
 oO 27 (.pick (tT 25) (tT 26) kF),oM 28 27,oF 28 29 (.mov (tT 1)),oF 28 30 (.bin .neq .num (tT 29) (.const (.int .u8 0))),oF 28 31 (.mov (tT 30)),oT 31 32 (.mov (tT 1)),oT 31 33 (.bin .neq .num (tT 32) (.const (.int .u8 3))),
 oF 28 34 (.pick (tT 31) (tT 33) kF),oF 28 35 (.mov (tT 34)),oT 35 36 (.faddr 0 (tT 2)),oT 35 37 (.load false 1 (tT 36)),oT 35 38 (.bin .eql .num (tT 37) (.const (.int .u8 6))),oF 28 39 (.pick (tT 35) (tT 38) kF),
 oO 40 (.pick (tT 28) kT (tT 39))]) (.cond (tT 40) (sQ (.region [oO 4 (.mov (kI 10))]) .ret) .skip)) (sQ (sQ (.region [oO 41 (.faddr 3 (tT 2)),oO 42 (.load false 1 (tT 41)),oO 43 (.len (tT 42)),oO 44 (.mov (kI 0))]) (.block 0 (.loop (sQ (.region [oO 45 (.bin .lss .num (tT 44) (tT 43))]) (sQ (.cond (tT 45) .skip (.exit 0)) (sQ (.block 1 (sQ (.region [oO 46 (.iaddr 4 (tT 42) (tT 44)),
 oO 47 (.load true 4 (tT 46)),oO 8 (.alloc [(.int .u8 0),(.int .i64 0),nS,nS]),⟨none,.store 4 (tT 8) (tT 47),none⟩]) (sQ (.region [oO 48 (.load true 4 (tT 8)),oM 49 1,oO 50 (kC 97 [(tT 48),(tT 49)]),oM 9 50]) (sQ (.region [oM 51 9,
 oO 52 (.bin .neq .num (tT 51) (kI 0))]) (.cond (tT 52) (sQ (.region [oM 53 9,oM 4 53]) .ret) .skip))))) (.region [oO 54 (.bin .add .num (tT 44) (kI 1)),oM 44 54]))))))) (sQ (.region [oO 4 (.mov (kI 0))]) .ret))))))
theorem ok97 : FnOk Tryz.prog 97 55 ir97 [.tmp 4] := Z8 mixed Tryz.func97 (by kernel_rfl) Tryz.ntmps97 (by kernel_rfl) (by kernel_rfl)
def ir98 : ACode := (sQ (.region [oO 2 (.mov (kI 0))]) (sQ (.region [oM 3 0,oO 4 (.bin .shr .num (tT 3) (.const (.int .u64 1))),oO 5 (.bin .and .num (tT 4) (.const (.int .u64 6148914691236517205))),oM 6 0,
 oO 7 (.bin .and .num (tT 6) (.const (.int .u64 6148914691236517205))),oO 8 (.bin .add .num (tT 5) (tT 7)),oM 0 8]) (sQ (.region [oM 9 0,oO 10 (.bin .shr .num (tT 9) (.const (.int .u64 2))),oO 11 (.bin .and .num (tT 10) (.const (.int .u64 3689348814741910323))),
 oM 12 0,oO 13 (.bin .and .num (tT 12) (.const (.int .u64 3689348814741910323))),oO 14 (.bin .add .num (tT 11) (tT 13)),oM 0 14]) (sQ (.region [oM 15 0,oO 16 (.bin .shr .num (tT 15) (.const (.int .u64 4))),
 oM 17 0,oO 18 (.bin .add .num (tT 16) (tT 17)),oO 19 (.bin .and .num (tT 18) (.const (.int .u64 1085102592571150095))),oM 0 19]) (sQ (.region [oM 20 0,oM 21 0,oO 22 (.bin .shr .num (tT 21) (.const (.int .u64 8))),
 oO 23 (.bin .add .num (tT 20) (tT 22)),oM 0 23]) (sQ (.region [oM 24 0,oM 25 0,oO 26 (.bin .shr .num (tT 25) (.const (.int .u64 16))),oO 27 (.bin .add .num (tT 24) (tT 26)),oM 0 27]) (sQ (.region [oM 28 0,
 oM 29 0,oO 30 (.bin .shr .num (tT 29) (.const (.int .u64 32))),oO 31 (.bin .add .num (tT 28) (tT 30)),oM 0 31]) (sQ (.region [oM 32 0,oO 33 (.conv .i64 (tT 32)),oO 34 (.bin .and .num (tT 33) (kI 127)),
 oM 2 34]) .ret))))))))
theorem ok98 : FnOk Tryz.prog 98 35 ir98 [.tmp 2] := Z8 mixed Tryz.func98 (by kernel_rfl) Tryz.ntmps98 (by kernel_rfl) (by kernel_rfl)
set_option maxRecDepth 100000
def ir99 : ACode := (sQ (.region [oO 6 (.mov kF)]) (sQ (sQ (.region [oM 9 0,oM 10 1,oM 11 2,oO 12 (kC 129 [(tT 9),(tT 10),(tT 11)]),oO 13 (.una .not (tT 12))]) (.cond (tT 13) (sQ (.region [oO 6 (.mov kF)]) .ret) .skip)) (sQ (sQ (.region [oM 14 0,
 oO 15 (.nilck (tT 14)),oO 16 (.faddr 0 (tT 15)),oO 17 (.load false 1 (tT 16)),oO 18 (.len (tT 17)),oO 19 (.mov (kI 0))]) (.block 0 (.loop (sQ (.region [oO 20 (.bin .lss .num (tT 19) (tT 18))]) (sQ (.cond (tT 20) .skip (.exit 0)) (sQ (.block 1 (sQ (.region [oM 21 19,
 oM 7 21]) (sQ (.region [oM 22 7,oO 23 (.bin .shl .num (kI 1) (tT 22)),oM 8 23]) (sQ (.region [oM 24 1,oM 25 8,oO 26 (.bin .and .num (tT 24) (tT 25)),oO 27 (.bin .neq .num (tT 26) (kI 0)),oM 28 27,oT 28 29 (.mov (tT 0)),
 oT 28 30 (.mov (tT 1)),oT 28 31 (.mov (tT 8)),oT 28 32 (.bin .sub .num (tT 30) (tT 31)),oT 28 33 (.mov (tT 2)),oT 28 34 (kC 129 [(tT 29),(tT 32),(tT 33)]),oO 35 (.pick (tT 28) (tT 34) kF),oM 36 35,oF 36 37 (.mov (tT 2)),
 oF 36 38 (.mov (tT 8)),oF 36 39 (.bin .and .num (tT 37) (tT 38)),oF 36 40 (.bin .neq .num (tT 39) (kI 0)),oF 36 41 (.mov (tT 40)),oT 41 42 (.mov (tT 0)),oT 41 43 (.mov (tT 1)),oT 41 44 (.mov (tT 2)),oT 41 45 (.mov (tT 8)),
 oT 41 46 (.bin .sub .num (tT 44) (tT 45)),oT 41 47 (kC 129 [(tT 42),(tT 43),(tT 46)]),oF 36 48 (.pick (tT 41) (tT 47) kF),oO 49 (.pick (tT 36) kT (tT 48))]) (.cond (tT 49) (sQ (.region [oO 6 (.mov kF)]) .ret) .skip))))) (.region [oO 50 (.bin .add .num (tT 19) (kI 1)),
 oM 19 50]))))))) (sQ (.region [oO 6 (.mov kT)]) .ret))))
theorem ok99 : FnOk Tryz.prog 99 51 ir99 [.tmp 6] := Z8 mixed Tryz.func99 (by kernel_rfl) Tryz.ntmps99 (by kernel_rfl) (by kernel_rfl)
def ir100 : ACode := (sQ (.region [oO 4 (.alloc [nS])]) (sQ (.region [oO 5 (.alloc [nS])]) (sQ (sQ (.region [oM 8 0,oO 9 (.nilck (tT 8)),oO 10 (.faddr 0 (tT 9)),oO 11 (.load false 1 (tT 10)),oO 12 (.len (tT 11)),
 oO 13 (.mov (kI 0))]) (.block 0 (.loop (sQ (.region [oO 14 (.bin .lss .num (tT 13) (tT 12))]) (sQ (.cond (tT 14) .skip (.exit 0)) (sQ (.block 1 (sQ (.region [oM 15 13,oO 16 (.iaddr 1 (tT 11) (tT 13)),oO 17 (.load false 1 (tT 16)),
 oM 6 15,oM 7 17]) (sQ (.region [oM 18 1,oM 19 6,oO 20 (.bin .shr .num (tT 18) (tT 19)),oO 21 (.bin .and .num (tT 20) (kI 1)),oO 22 (.bin .eql .num (tT 21) (kI 1))]) (.cond (tT 22) (.region [oO 23 (.load true 1 (tT 5)),
 oM 24 7,oO 25 (kC 75 [(tT 23),(tT 24)]),⟨none,.store 1 (tT 5) (tT 25),none⟩]) .skip)))) (.region [oO 26 (.bin .add .num (tT 13) (kI 1)),oM 13 26]))))))) (sQ (.region [oO 27 (.load true 1 (tT 5)),⟨none,
 .store 1 (tT 4) (tT 27),none⟩]) .ret))))
theorem ok100 : FnOk Tryz.prog 100 28 ir100 [.cell 4 true 1] := Z8 mixed Tryz.func100 (by kernel_rfl) Tryz.ntmps100 (by kernel_rfl) (by kernel_rfl)
def ir102 : ACode := (sQ (.region [oO 2 (.box (tT 0)),oO 3 (.box (tT 1)),oO 4 (.mov (kI 0))]) (sQ (sQ (.region [oO 6 (.faddr 0 (tT 2)),oO 7 (.load true 1 (tT 6)),oO 8 (.faddr 0 (tT 3)),oO 9 (.load true 1 (tT 8)),
 oO 10 (kC 77 [(tT 7),(tT 9)]),oM 5 10]) (sQ (.region [oM 11 5,oO 12 (.bin .neq .num (tT 11) (kI 0))]) (.cond (tT 12) (sQ (.region [oM 13 5,oM 4 13]) .ret) .skip))) (sQ (.region [oO 14 (.faddr 1 (tT 2)),
 oO 15 (.load true 1 (tT 14)),oO 16 (.faddr 1 (tT 3)),oO 17 (.load true 1 (tT 16)),oO 18 (kC 77 [(tT 15),(tT 17)]),oM 4 18]) .ret)))
theorem ok102 : FnOk Tryz.prog 102 19 ir102 [.tmp 4] := Z8 mixed Tryz.func102 (by kernel_rfl) Tryz.ntmps102 (by kernel_rfl) (by kernel_rfl)
def ir103 : ACode := (sQ (.region [oO 3 (.box (tT 1)),oO 4 (.mov (kI 0))]) (sQ (.region [oO 5 (.mov (kI 0))]) (sQ (sQ (.region [oM 8 0,oO 9 (.len (tT 8)),oO 10 (.mov (kI 0))]) (.block 0 (.loop (sQ (.region [oO 11 (.bin .lss .num (tT 10) (tT 9))]) (sQ (.cond (tT 11) .skip (.exit 0)) (sQ (.block 1 (sQ (.region [oO 12 (.iaddr 1 (tT 8) (tT 10)),
 oO 13 (.load false 1 (tT 12)),oM 7 13]) (.region [oM 14 5,oO 15 (.load true 1 (tT 3)),oM 16 7,oO 17 (kC 42 [(tT 15),(tT 16)]),oO 18 (kC 104 [(tT 17)]),oO 19 (.bin .add .num (tT 14) (tT 18)),oM 5 19]))) (.region [oO 20 (.bin .add .num (tT 10) (kI 1)),
 oM 10 20]))))))) (sQ (.region [oM 21 5,oM 4 21]) .ret))))
theorem ok103 : FnOk Tryz.prog 103 22 ir103 [.tmp 4] := Z8 mixed Tryz.func103 (by kernel_rfl) Tryz.ntmps103 (by kernel_rfl) (by kernel_rfl)
def ir104 : ACode := (sQ (.region [oO 2 (.mov (kI 0))]) (sQ (sQ (.region [oM 3 0]) (.cond (tT 3) (sQ (.region [oO 2 (.mov (kI 1))]) .ret) .skip)) (sQ (.region [oO 2 (.mov (kI 0))]) .ret)))
theorem ok104 : FnOk Tryz.prog 104 4 ir104 [.tmp 2] := Z8 mixed Tryz.func104 (by kernel_rfl) Tryz.ntmps104 (by kernel_rfl) (by kernel_rfl)
def ir106 : ACode := (sQ (.region [oO 2 (.box (tT 0)),oO 4 (.mov kF)]) (sQ (.region [oO 8 (.load true 1 (tT 2)),oO 9 (kC 139 [(tT 8)]),oM 7 9,oO 10 (.extract (tT 7) 0),oO 11 (.extract (tT 7) 1),oM 5 10,
 oM 6 11]) (sQ (.region [oM 12 6,oM 13 12,oT 13 14 (.mov (tT 5)),oT 13 15 (.mov (tT 1)),oT 13 16 (.bin .gtr .num (tT 14) (tT 15)),oO 17 (.pick (tT 13) (tT 16) kF),oM 4 17]) .ret)))
theorem ok106 : FnOk Tryz.prog 106 18 ir106 [.tmp 4] := Z8 mixed Tryz.func106 (by kernel_rfl) Tryz.ntmps106 (by kernel_rfl) (by kernel_rfl)
def ir107 : ACode := (sQ (.region [oO 2 (.mov (kI 0))]) (sQ (sQ (.region [oM 3 0]) (.cond (tT 3) (sQ (.region [oO 2 (.mov (kI 1))]) .ret) .skip)) (sQ (.region [oO 2 (.mov (kI 0))]) .ret)))
theorem ok107 : FnOk Tryz.prog 107 4 ir107 [.tmp 2] := Z8 mixed Tryz.func107 (by kernel_rfl) Tryz.ntmps107 (by kernel_rfl) (by kernel_rfl)
def ir108 : ACode := (sQ (.region [oO 2 (.box (tT 0)),oO 4 (.mov (kI 0))]) (sQ (sQ (.region [oM 5 1,oO 6 (.bin .lss .num (tT 5) (kI 0)),oM 7 6,oF 7 8 (.mov (tT 1)),oF 7 9 (.faddr 1 (tT 2)),oF 7 10 (.load false 1 (tT 9)),
 oF 7 11 (.len (tT 10)),oF 7 12 (.bin .geq .num (tT 8) (tT 11)),oO 13 (.pick (tT 7) kT (tT 12)),oM 14 13,oF 14 15 (.faddr 1 (tT 2)),oF 14 16 (.load false 1 (tT 15)),oF 14 17 (.mov (tT 1)),oF 14 18 (.iaddr 1 (tT 16) (tT 17)),
 oF 14 19 (.load false 1 (tT 18)),oF 14 20 (.bin .lss .num (tT 19) (kI 0)),oO 21 (.pick (tT 14) kT (tT 20)),oM 22 21,oF 22 23 (.faddr 1 (tT 2)),oF 22 24 (.load false 1 (tT 23)),oF 22 25 (.mov (tT 1)),oF 22 26 (.iaddr 1 (tT 24) (tT 25)),
 oF 22 27 (.load false 1 (tT 26)),oF 22 28 (.bin .gtr .num (tT 27) (kI 256)),oO 29 (.pick (tT 22) kT (tT 28))]) (.cond (tT 29) (sQ (.region [oO 4 (.mov (kI 0))]) .ret) .skip)) (sQ (.region [oO 30 (.faddr 1 (tT 2)),
 oO 31 (.load false 1 (tT 30)),oM 32 1,oO 33 (.iaddr 1 (tT 31) (tT 32)),oO 34 (.load false 1 (tT 33)),oM 4 34]) .ret)))
theorem ok108 : FnOk Tryz.prog 108 35 ir108 [.tmp 4] := Z8 mixed Tryz.func108 (by kernel_rfl) Tryz.ntmps108 (by kernel_rfl) (by kernel_rfl)
def ir109 : ACode := (sQ (.region [oO 4 (.alloc [nS])]) (sQ (sQ (.region [oM 5 0,oM 6 1,oO 7 (kC 61 [(tT 5),(tT 6)]),oO 8 (.una .not (tT 7))]) (.cond (tT 8) (sQ (.region [oO 9 (.build [nS] []),⟨none,.store 1 (tT 4) (tT 9),
 none⟩]) .ret) .skip)) (sQ (.region [oM 10 0,oO 11 (.nilck (tT 10)),oO 12 (.faddr 3 (tT 11)),oO 13 (.load false 1 (tT 12)),oM 14 1,oO 15 (.iaddr 1 (tT 13) (tT 14)),oO 16 (.load true 1 (tT 15)),⟨none,.store 1 (tT 4) (tT 16),
 none⟩]) .ret)))
theorem ok109 : FnOk Tryz.prog 109 17 ir109 [.cell 4 true 1] := Z8 mixed Tryz.func109 (by kernel_rfl) Tryz.ntmps109 (by kernel_rfl) (by kernel_rfl)
def ir112 : ACode := (sQ (.region [oO 4 (.mov kF)]) (sQ (.region [oM 5 0,oM 6 1,oO 7 (kC 144 [(tT 5),(tT 6)]),oO 8 (.bin .geq .num (tT 7) (kI 0)),oM 4 8]) .ret))
theorem ok112 : FnOk Tryz.prog 112 9 ir112 [.tmp 4] := Z8 mixed Tryz.func112 (by kernel_rfl) Tryz.ntmps112 (by kernel_rfl) (by kernel_rfl)
def ir113 : ACode := (sQ (.region [oO 0 (.mov (.const nS))]) (sQ (.region [⟨(some 1),.bslice [(.string ⟨#[]⟩)] 20 [(0,(.const (.string ⟨#[97,108,108]⟩))),(1,(.const (.string ⟨#[97,110,100]⟩))),(2,(.const (.string ⟨#[97,
 115,115,105,103,110]⟩))),(3,(.const (.string ⟨#[98,121]⟩))),(4,(.const (.string ⟨#[99,111,117,110,116]⟩))),(5,(.const (.string ⟨#[100,101,99,108,97,114,101]⟩))),(6,(.const (.string ⟨#[100,121,110,97,109,
 105,99]⟩))),(7,(.const (.string ⟨#[101,110,102,111,114,99,101]⟩))),(8,(.const (.string ⟨#[102,97,108,115,101]⟩))),(9,(.const (.string ⟨#[102,111,114]⟩))),(10,(.const (.string ⟨#[105,102]⟩))),(11,(.const (.string ⟨#[109,
 101,109,98,101,114,115]⟩))),(12,(.const (.string ⟨#[110,111,110,101]⟩))),(13,(.const (.string ⟨#[110,111,116]⟩))),(14,(.const (.string ⟨#[111,110]⟩))),(15,(.const (.string ⟨#[111,114]⟩))),(16,(.const (.string ⟨#[114,
 101,118,111,107,101]⟩))),(17,(.const (.string ⟨#[115,116,97,116,105,99]⟩))),(18,(.const (.string ⟨#[116,114,117,101]⟩))),(19,(.const (.string ⟨#[117,115,101,114,115]⟩)))],none⟩,oM 0 1]) .ret))
theorem ok113 : FnOk Tryz.prog 113 2 ir113 [.tmp 0] := Z8 mixed Tryz.func113 (by kernel_rfl) Tryz.ntmps113 (by kernel_rfl) (by kernel_rfl)
def ir114 : ACode := (sQ (.region [oO 2 (.mov kF)]) (sQ (.region [oM 3 0,oO 4 (.bin .geq .num (tT 3) (.const (.int .u8 97))),oM 5 4,oT 5 6 (.mov (tT 0)),oT 5 7 (.bin .leq .num (tT 6) (.const (.int .u8 122))),
 oO 8 (.pick (tT 5) (tT 7) kF),oM 2 8]) .ret))
theorem ok114 : FnOk Tryz.prog 114 9 ir114 [.tmp 2] := Z8 mixed Tryz.func114 (by kernel_rfl) Tryz.ntmps114 (by kernel_rfl) (by kernel_rfl)
def ir115 : ACode := (sQ (.region [oO 3 (.mov kF)]) (sQ (.region [oO 4 (.load false 1 (tT 1)),oM 5 0,oO 6 (.call (tT 4) [(tT 5)]),oM 7 6,oF 7 8 (.mov (tT 0)),oF 7 9 (.bin .geq .num (tT 8) (.const (.int .u8 48))),
 oF 7 10 (.mov (tT 9)),oT 10 11 (.mov (tT 0)),oT 10 12 (.bin .leq .num (tT 11) (.const (.int .u8 57))),oF 7 13 (.pick (tT 10) (tT 12) kF),oO 14 (.pick (tT 7) kT (tT 13)),oM 15 14,oF 15 16 (.mov (tT 0)),
 oF 15 17 (.bin .eql .num (tT 16) (.const (.int .u8 95))),oO 18 (.pick (tT 15) kT (tT 17)),oM 3 18]) .ret))
theorem ok115 : FnOk Tryz.prog 115 19 ir115 [.tmp 3] := Z8 mixed Tryz.func115 (by kernel_rfl) Tryz.ntmps115 (by kernel_rfl) (by kernel_rfl)
def ir127 : ACode := (sQ (.region [oO 2 (.mov (kI 0))]) (sQ (sQ (.region [oM 3 0,oO 4 (.bin .geq .num (tT 3) (.const (.int .u64 4294967296)))]) (.cond (tT 4) (sQ (.region [oM 5 0,oO 6 (.bin .shr .num (tT 5) (.const (.int .u64 32))),
 oM 0 6]) (.region [oO 2 (.mov (kI 32))])) .skip)) (sQ (sQ (.region [oM 7 0,oO 8 (.bin .geq .num (tT 7) (.const (.int .u64 65536)))]) (.cond (tT 8) (sQ (.region [oM 9 0,oO 10 (.bin .shr .num (tT 9) (.const (.int .u64 16))),
 oM 0 10]) (.region [oM 11 2,oO 12 (.bin .add .num (tT 11) (kI 16)),oM 2 12])) .skip)) (sQ (sQ (.region [oM 13 0,oO 14 (.bin .geq .num (tT 13) (.const (.int .u64 256)))]) (.cond (tT 14) (sQ (.region [oM 15 0,
 oO 16 (.bin .shr .num (tT 15) (.const (.int .u64 8))),oM 0 16]) (.region [oM 17 2,oO 18 (.bin .add .num (tT 17) (kI 8)),oM 2 18])) .skip)) (sQ (.region [oM 19 2,oM 20 0,oO 21 (.conv .u8 (tT 20)),⟨(some 22),
 .indexS (.const (.string ⟨#[0,1,2,2,3,3,3,3,4,4,4,4,4,4,4,4,5,5,5,5,5,5,5,5,5,5,5,5,5,5,5,5,6,6,6,6,6,6,6,6,6,6,6,6,6,6,6,6,6,6,6,6,6,6,6,6,6,6,6,6,6,6,6,6,7,7,7,7,7,7,7,7,7,7,7,7,7,7,7,7,7,7,7,7,7,7,7,
 7,7,7,7,7,7,7,7,7,7,7,7,7,7,7,7,7,7,7,7,7,7,7,7,7,7,7,7,7,7,7,7,7,7,7,7,7,7,7,7,7,8,8,8,8,8,8,8,8,8,8,8,8,8,8,8,8,8,8,8,8,8,8,8,8,8,8,8,8,8,8,8,8,8,8,8,8,8,8,8,8,8,8,8,8,8,8,8,8,8,8,8,8,8,8,8,8,8,8,8,8,
 8,8,8,8,8,8,8,8,8,8,8,8,8,8,8,8,8,8,8,8,8,8,8,8,8,8,8,8,8,8,8,8,8,8,8,8,8,8,8,8,8,8,8,8,8,8,8,8,8,8,8,8,8,8,8,8,8,8,8,8,8,8,8,8,8,8,8,8]⟩)) (tT 21),none⟩,oO 23 (.conv .i64 (tT 22)),oO 24 (.bin .add .num (tT 19) (tT 23)),
 oM 2 24]) .ret)))))
theorem ok127 : FnOk Tryz.prog 127 25 ir127 [.tmp 2] := Z8 mixed Tryz.func127 (by kernel_rfl) Tryz.ntmps127 (by kernel_rfl) (by kernel_rfl)
def ir128 : ACode := (sQ (.region [oO 1 (.box (tT 0)),oO 2 (.mov (kI 0))]) (sQ (.region [oO 9 (.faddr 0 (tT 1)),oO 10 (.load false 1 (tT 9)),oO 11 (kC 150 [(tT 10)]),oM 8 11,oO 12 (.extract (tT 8) 0),oO 13 (.extract (tT 8) 1),
 oO 14 (.extract (tT 8) 2),oM 3 12,oM 4 13,oM 5 14]) (sQ (sQ (.region [oO 15 (.faddr 0 (tT 1)),oO 16 (.load false 1 (tT 15)),oO 17 (.bin .lss .num (tT 16) (.const (.int .u8 1))),oM 18 17,oF 18 19 (.faddr 0 (tT 1)),
 oF 18 20 (.load false 1 (tT 19)),oF 18 21 (.bin .gtr .num (tT 20) (.const (.int .u8 16))),oO 22 (.pick (tT 18) kT (tT 21)),oM 23 22,oF 23 24 (.faddr 3 (tT 1)),oF 23 25 (.load false 1 (tT 24)),oF 23 26 (.len (tT 25)),
 oF 23 27 (.mov (tT 3)),oF 23 28 (.bin .neq .num (tT 26) (tT 27)),oO 29 (.pick (tT 23) kT (tT 28))]) (.cond (tT 29) (sQ (.region [oO 2 (.mov (kI 1))]) .ret) .skip)) (sQ (sQ (.region [oO 30 (.faddr 0 (tT 1)),
 oO 31 (.load false 1 (tT 30)),oO 32 (.bin .neq .num (tT 31) (.const (.int .u8 1))),oM 33 32,oT 33 34 (.faddr 1 (tT 1)),oT 33 35 (.load false 1 (tT 34)),oT 33 36 (.bin .neq .num (tT 35) (kI 0)),oO 37 (.pick (tT 33) (tT 36) kF),
 oM 38 37,oF 38 39 (.faddr 2 (tT 1)),oF 38 40 (.load false 1 (tT 39)),oF 38 41 (.len (tT 40)),oF 38 42 (.mov (tT 4)),oF 38 43 (.bin .lss .num (tT 41) (tT 42)),oO 44 (.pick (tT 38) kT (tT 43)),oM 45 44,oF 45 46 (.faddr 2 (tT 1)),
 oF 45 47 (.load false 1 (tT 46)),oF 45 48 (.len (tT 47)),oF 45 49 (.mov (tT 5)),oF 45 50 (.bin .gtr .num (tT 48) (tT 49)),oO 51 (.pick (tT 45) kT (tT 50))]) (.cond (tT 51) (sQ (.region [oO 2 (.mov (kI 6))]) .ret) .skip)) (sQ (sQ (.region [oO 52 (.faddr 1 (tT 1)),
 oO 53 (.load false 1 (tT 52)),oO 54 (.bin .lss .num (tT 53) (kI 0)),oM 55 54,oF 55 56 (.faddr 1 (tT 1)),oF 55 57 (.load false 1 (tT 56)),oF 55 58 (.bin .gtr .num (tT 57) (kI 999999)),oO 59 (.pick (tT 55) kT (tT 58))]) (.cond (tT 59) (sQ (.region [oO 2 (.mov (kI 2))]) .ret) .skip)) (sQ (sQ (.region [oO 60 (.faddr 2 (tT 1)),
 oO 61 (.load false 1 (tT 60)),oO 62 (.len (tT 61)),oO 63 (.mov (kI 0))]) (.block 0 (.loop (sQ (.region [oO 64 (.bin .lss .num (tT 63) (tT 62))]) (sQ (.cond (tT 64) .skip (.exit 0)) (sQ (.block 1 (sQ (.region [oO 65 (.iaddr 1 (tT 61) (tT 63)),
 oO 66 (.load false 1 (tT 65)),oM 7 66]) (sQ (.region [oM 67 7,oO 68 (.bin .lss .num (tT 67) (kI 1)),oM 69 68,oF 69 70 (.mov (tT 7)),oF 69 71 (.bin .gtr .num (tT 70) (kI 63)),oO 72 (.pick (tT 69) kT (tT 71))]) (.cond (tT 72) (sQ (.region [oO 2 (.mov (kI 2))]) .ret) .skip)))) (.region [oO 73 (.bin .add .num (tT 63) (kI 1)),
 oM 63 73]))))))) (sQ (sQ (.draw [⟨0,oO 74 (.faddr 2 (tT 1)),0,0,false⟩,⟨1,oO 75 (.load false 1 (tT 74)),1,0,false⟩,⟨2,oO 76 (kC 14 [(tT 75)]),3,0,false⟩,⟨3,oO 77 (kC 68 [(tT 76)]),7,0,false⟩,⟨4,oO 78 (.faddr 2 (tT 1)),
 0,0,false⟩,⟨5,oO 79 (.load false 1 (tT 78)),16,0,false⟩,⟨6,oO 80 (.len (tT 79)),48,0,false⟩,⟨7,oO 81 (.bin .neq .num (tT 77) (tT 80)),127,1,false⟩]) (.cond (tT 81) (sQ (.region [oO 2 (.mov (kI 5))]) .ret) .skip)) (sQ (.region [oO 2 (.mov (kI 0))]) .ret))))))))
theorem ok128 : FnOk Tryz.prog 128 82 ir128 [.tmp 2] := Z8 mixed Tryz.func128 (by kernel_rfl) Tryz.ntmps128 (by kernel_rfl) (by kernel_rfl)
def ir129 : ACode := (sQ (.region [oO 6 (.mov kF)]) (sQ (.region [oM 13 1,oM 14 2,oO 15 (.build [(.int .i64 0),(.int .i64 0)] [(0,1,(tT 13)),(1,1,(tT 14))]),oO 7 (.alloc [(.int .i64 0),(.int .i64 0)]),
 ⟨none,.store 2 (tT 7) (tT 15),none⟩]) (sQ (sQ (.draw [⟨0,oM 17 0,0,0,false⟩,⟨1,oO 18 (.nilck (tT 17)),1,0,false⟩,⟨2,oO 19 (.faddr 2 (tT 18)),3,0,false⟩,⟨3,oO 20 (.load false 1 (tT 19)),7,0,false⟩,⟨4,oO 21 (.load true 2 (tT 7)),
 0,0,false⟩,⟨5,oO 22 (.lookup (.agg [0,0]) false [(.bool false)] true (tT 20) (tT 21)),31,1,false⟩,⟨6,oM 16 22,63,1,false⟩,⟨7,oO 23 (.extract (tT 16) 0),127,1,false⟩,⟨8,oO 24 (.extract (tT 16) 1),127,1,
 false⟩,⟨9,oM 8 23,255,1,false⟩,⟨10,oM 9 24,1023,1,false⟩]) (sQ (.region [oM 25 9]) (.cond (tT 25) (sQ (.region [oM 26 8,oM 6 26]) .ret) .skip))) (sQ (.region [oO 10 (.mov (.const (.int .i64 (-1))))]) (sQ (sQ (.region [oM 27 0,
 oO 28 (.nilck (tT 27)),oO 29 (.faddr 0 (tT 28)),oO 30 (.load false 1 (tT 29)),oO 31 (.len (tT 30)),oO 32 (.mov (kI 0))]) (.block 0 (.loop (sQ (.region [oO 33 (.bin .lss .num (tT 32) (tT 31))]) (sQ (.cond (tT 33) .skip (.exit 0)) (sQ (.block 1 (sQ (.region [oM 34 32,
 oM 11 34]) (sQ (.region [oM 35 1,oM 36 2,oO 37 (.bin .or .num (tT 35) (tT 36)),oM 38 11,oO 39 (.bin .shr .num (tT 37) (tT 38)),oO 40 (.bin .and .num (tT 39) (kI 1)),oO 41 (.bin .eql .num (tT 40) (kI 0))]) (.cond (tT 41) (.region [oM 42 11,
 oM 10 42]) .skip)))) (.region [oO 43 (.bin .add .num (tT 32) (kI 1)),oM 32 43]))))))) (sQ (.region [oO 12 (.mov kF)]) (sQ (sQ (.region [oM 44 10,oO 45 (.bin .lss .num (tT 44) (kI 0))]) (.cond (tT 45) (.draw [⟨0,
 oM 46 0,0,1,false⟩,⟨1,oO 47 (.nilck (tT 46)),1,1,false⟩,⟨2,oO 48 (.faddr 1 (tT 47)),3,1,false⟩,⟨3,oO 49 (.load false 1 (tT 48)),7,1,false⟩,⟨4,oM 50 0,0,0,false⟩,⟨5,oM 51 1,0,0,false⟩,⟨6,oO 52 (kC 100 [(tT 50),
 (tT 51)]),48,0,false⟩,⟨7,oO 53 (.call (tT 49) [(tT 52)]),127,1,false⟩,⟨8,oM 12 53,255,1,false⟩]) (.region [oM 54 0,oM 55 1,oM 56 10,oO 57 (.bin .shl .num (kI 1) (tT 56)),oO 58 (.bin .or .num (tT 55) (tT 57)),
 oM 59 2,oO 60 (kC 129 [(tT 54),(tT 58),(tT 59)]),oM 61 60,oT 61 62 (.mov (tT 0)),oT 61 63 (.mov (tT 1)),oT 61 64 (.mov (tT 2)),oT 61 65 (.mov (tT 10)),oT 61 66 (.bin .shl .num (kI 1) (tT 65)),oT 61 67 (.bin .or .num (tT 64) (tT 66)),
 oT 61 68 (kC 129 [(tT 62),(tT 63),(tT 67)]),oO 69 (.pick (tT 61) (tT 68) kF),oM 12 69]))) (sQ (.draw [⟨0,oM 70 0,0,0,false⟩,⟨1,oO 71 (.nilck (tT 70)),1,0,false⟩,⟨2,oO 72 (.faddr 2 (tT 71)),3,0,false⟩,⟨3,
 oO 73 (.load false 1 (tT 72)),7,0,false⟩,⟨4,oO 74 (.load true 2 (tT 7)),0,0,false⟩,⟨5,oM 75 12,0,0,false⟩,⟨6,⟨none,.mapset (.agg [0,0]) (tT 73) (tT 74) (tT 75),none⟩,63,1,false⟩]) (sQ (.region [oM 76 12,
 oM 6 76]) .ret)))))))))
theorem ok129 : FnOk Tryz.prog 129 77 ir129 [.tmp 6] := Z8 mixed Tryz.func129 (by kernel_rfl) Tryz.ntmps129 (by kernel_rfl) (by kernel_rfl)
def ir139 : ACode := (sQ (.region [oO 1 (.box (tT 0)),oO 2 (.mov (kI 0)),oO 3 (.mov kF)]) (sQ (sQ (.region [oO 5 (.load true 1 (tT 1)),oO 6 (kC 50 [(tT 5)])]) (.cond (tT 6) (sQ (.region [oO 2 (.mov (kI 0)),
 oO 3 (.mov kF)]) .ret) .skip)) (sQ (.region [oO 7 (.faddr 0 (tT 1)),oO 8 (.load false 1 (tT 7)),oO 9 (.len (tT 8)),oO 10 (.bin .sub .num (tT 9) (kI 1)),oM 4 10]) (sQ (.region [oM 11 4,oO 12 (.bin .mul .num (kI 64) (tT 11)),
 oO 13 (.faddr 0 (tT 1)),oO 14 (.load false 1 (tT 13)),oM 15 4,oO 16 (.iaddr 1 (tT 14) (tT 15)),oO 17 (.load false 1 (tT 16)),oO 18 (kC 127 [(tT 17)]),oO 19 (.bin .add .num (tT 12) (tT 18)),oO 20 (.bin .sub .num (tT 19) (kI 1)),
 oM 2 20,oO 3 (.mov kT)]) .ret))))
theorem ok139 : FnOk Tryz.prog 139 21 ir139 [.tmp 2, .tmp 3] := Z8 mixed Tryz.func139 (by kernel_rfl) Tryz.ntmps139 (by kernel_rfl) (by kernel_rfl)
def ir144 : ACode := (sQ (.region [oO 4 (.mov (kI 0))]) (sQ (sQ (.region [oM 6 0,oO 7 (.len (tT 6)),oO 8 (.mov (kI 0))]) (.block 0 (.loop (sQ (.region [oO 9 (.bin .lss .num (tT 8) (tT 7))]) (sQ (.cond (tT 9) .skip (.exit 0)) (sQ (.block 1 (sQ (.region [oM 10 8,
 oM 5 10]) (sQ (.region [oM 11 1,oM 12 0,oM 13 5,oO 14 (.iaddr 1 (tT 12) (tT 13)),oO 15 (.load false 1 (tT 14)),oO 16 (.bin .eql .num (tT 11) (tT 15))]) (.cond (tT 16) (sQ (.region [oM 17 5,oM 4 17]) .ret) .skip)))) (.region [oO 18 (.bin .add .num (tT 8) (kI 1)),
 oM 8 18]))))))) (sQ (.region [oO 4 (.mov (.const (.int .i64 (-1))))]) .ret)))
theorem ok144 : FnOk Tryz.prog 144 19 ir144 [.tmp 4] := Z8 mixed Tryz.func144 (by kernel_rfl) Tryz.ntmps144 (by kernel_rfl) (by kernel_rfl)
def ir150 : ACode := (sQ (.region [oO 2 (.mov (kI 0)),oO 3 (.mov (kI 0)),oO 4 (.mov (kI 0))]) (sQ (.block 0 (sQ (.region [oM 6 0,oO 7 (.bin .geq .num (tT 6) (.const (.int .u8 8))),oM 5 7]) (.cond (tT 5) (sQ (.region [oO 2 (.mov (kI 2)),
 oO 3 (.mov (kI 0)),oO 4 (.mov (kI 0))]) .ret) (sQ (.region [oM 9 0,oO 10 (.bin .eql .num (tT 9) (.const (.int .u8 7))),oM 8 10]) (.cond (tT 8) (sQ (.region [oO 2 (.mov (kI 1)),oO 3 (.mov (kI 0)),oO 4 (.mov (kI 0))]) .ret) (sQ (.region [oM 12 0,
 oO 13 (.bin .eql .num (tT 12) (.const (.int .u8 4))),oM 14 13,oF 14 15 (.mov (tT 0)),oF 14 16 (.bin .eql .num (tT 15) (.const (.int .u8 6))),oO 17 (.pick (tT 14) kT (tT 16)),oM 11 17]) (.cond (tT 11) (sQ (.region [oO 2 (.mov (kI 0)),
 oO 3 (.mov (kI 1)),oO 4 (.mov (kI 1))]) .ret) (sQ (.region [oM 19 0,oO 20 (.bin .eql .num (tT 19) (.const (.int .u8 5))),oM 18 20]) (.cond (tT 18) (sQ (.region [oO 2 (.mov (kI 0)),oO 3 (.mov (kI 1)),oO 4 (.mov (kI 8))]) .ret) .skip))))))))) (sQ (.region [oO 2 (.mov (kI 0)),
 oO 3 (.mov (kI 0)),oO 4 (.mov (kI 0))]) .ret)))
theorem ok150 : FnOk Tryz.prog 150 21 ir150 [.tmp 2, .tmp 3, .tmp 4] := Z8 mixed Tryz.func150 (by kernel_rfl) Tryz.ntmps150 (by kernel_rfl) (by kernel_rfl)
end Go.Proofs.YtojlnagiaibgkaaGreatDoor
namespace Go.Proofs.YtojlnagiaibgkaaGreatDoor
open Go.RowKit
attribute [local irreducible] aw opsK dK
def nums (l:List Int):List (List PV):=l.map fun x => [.val (.int .i64 x)]
def words (l:List Nat):List (List PV):=l.map fun (x:Nat) => [.val (.int .u64 (x:Int))]
def setP (l:List Nat):PV:=.agg [.vec (words l) false]
theorem Z2f {α:Type} (l:List α) (g:α→List PV) (hg:∀ x∈l,pureL (g x)):pureLL (l.map g):=by
 refine (Z1B _ _).2 fun p hp=>?_; obtain⟨x,hx,rfl⟩:=List.mem_map.1 hp; exact hg x hx
theorem Z2g (l:List Nat):(setP l).pure:=⟨Z2f _ _ fun _ _=>⟨trivial,trivial⟩,trivial⟩
theorem Zd (l:List Nat):pureLL (words l):=Z2f _ _ fun _ _=>⟨trivial,trivial⟩
def IsTrim (l:List Nat) (r:PV):Prop:=∃ k,k≤l.length∧(∀ j,k≤j→l.getD j 0=0)∧(k=0 ∨ l.getD (k-1) 0≠0)∧r=setP (l.take k)
theorem Zeb (k:Nat) (h:k≤9223372036854775807):IntKind.i64.wrap (k:Int)=k:=IntWalk.i64_in _ ⟨by omega,by omega⟩
theorem Z2E (l:List Nat):Spec Tryz.prog 31 [.vec (words l) false] (IsTrim l):=by
 refine Z2 ok31 (Nat.le_of_ble_eq_true rfl) fun C hC=>?_
 refine Z3B (k:=0) rfl fun hmax=>?_
 have hlm:l.length≤maxVec:=by simpa [words] using hmax
 refine Zh ?_
 refine Za ?_
 (refine go ?_;repeat' (apply B<;>intro hb<;>try cases hb))
 refine Z3D (fun k=>k≤l.length∧∀ j,k≤j→l.getD j 0=0) id (fun k => [(0,.vec (words (l.take k)) false),(2,.ptr 0 0 0)]) l.length ⟨Nat.le_refl _,fun j hj=>by simp [List.getD_eq_getElem?_getD,hj]⟩ ⟨by rw [List.take_length]; rfl,rfl,trivial⟩ ?_
 rintro k ⟨hk,hzero⟩
 have hlen:(words (l.take k)).length=k:=by simp [words,hk]
 have hkm:k≤maxVec:=by omega
 (refine go ?_;repeat' (apply B<;>intro hb<;>try cases hb))
 · -- the last word
   have hpos:0<k:=by simpa [hlen] using hb
   have hsub:IntKind.i64.wrap (((words (l.take k)).length:Int)-1)=((k-1:Nat):Int):=by
    rw [hlen,show (k:Int)-1=((k-1:Nat):Int) by omega]; exact Zeb _ (by simp only [maxVec] at hkm;omega)
   refine Z6a (xs:=l.take k) rfl rfl (k-1) hsub (by simp;omega) rfl rfl ?_
   have hget : (l.take k)[k - 1]'(by simp;omega) = l.getD (k - 1) 0 := by
    simp [List.getD_eq_getElem?_getD,show k-1<l.length by omega]
   rw [hget]
   (refine go ?_;repeat' (apply B<;>intro hb<;>try cases hb))
   · refine Ze8 (xs := l.take k) rfl 0 (k - 1) rfl (by show some _ = some _; rw [hsub]) (by omega) (by simp; omega) (fun _ => rfl) rfl ?_
     (refine go ?_;repeat' (apply B<;>intro hb<;>try cases hb))
     refine⟨k-1,⟨by omega,fun j hj=>?_⟩,by simp; omega,rfl,rfl,⟨?_,rfl,trivial⟩⟩
     · by_cases hjk : j = k - 1
       · subst hjk; simpa using hb
       · exact hzero j (by omega)
     · show some (PV.vec (words (((l.take k).take (k - 1)).drop 0)) false) = _
       rw [List.drop_zero,List.take_take,Nat.min_eq_left (by omega)]
   · refine Z3 rfl (Z2g (l.take k)) ⟨k, hk, hzero, .inr ?_, rfl⟩
     intro h0
     rw [h0] at hb
     simp at hb
 · refine Z3 rfl (Z2g (l.take k)) ⟨k, hk, hzero, .inl ?_, rfl⟩
   simpa [hlen] using hb
theorem ZV (l:List Nat) (k:Nat):Spec Tryz.prog 81 [setP l,.val (.int .i64 k)] (· = .val (.int .u64 (l.getD k 0:Nat))):=by
 refine Z2 ok81 (Nat.le_of_ble_eq_true rfl) fun C hC=>?_
 refine Zh ?_
 refine Za ?_
 refine Z6 rfl rfl rfl ?_
 (refine go ?_;repeat' (apply B<;>intro hb<;>try cases hb))
 · have hk : k < l.length := by simpa [words] using hb
   refine Z6a (xs:=l) rfl rfl k rfl hk rfl rfl ?_
   (refine go ?_;repeat' (apply B<;>intro hb<;>try cases hb))
   exact Z3 rfl trivial (by simp [List.getD_eq_getElem?_getD,hk])
 · have hk : l.length ≤ k := by simpa [words] using hb
   exact Z3 rfl trivial (by simp [List.getD_eq_getElem?_getD,hk,pvOf])
def ofW:List Nat→Nat
 | []=>0
 | x :: r=>x+18446744073709551616*ofW r
def Words (l:List Nat):Prop:=∀ x∈l,x<18446744073709551616
theorem Words.getD {l:List Nat} (h:Words l) (k:Nat):l.getD k 0<18446744073709551616:=by
 rw [List.getD_eq_getElem?_getD]
 cases hk:l[k]? with
 | none=>simp
 | some x=>exact h x (List.mem_of_getElem? hk)
theorem Z1S:∀ {l:List Nat},Words l→∀ i,(ofW l).testBit i=(l.getD (i / 64) 0).testBit (i % 64)
 | [],_,i=>by simp [ofW]
 | x :: r, h, i => by
   have hx:x<2 ^ 64:=h x (by simp)
   have hr:Words r:=fun y hy=>h y (by simp [hy])
   have he:ofW (x :: r)=2 ^ 64*ofW r+x:=by simp only [ofW]; omega
   rw [he,Nat.testBit_two_pow_mul_add _ hx]
   by_cases hi:i<64
   · rw [if_pos hi,Nat.div_eq_of_lt hi,Nat.mod_eq_of_lt hi]; rfl
   · rw [if_neg hi, Z1S hr]
     have h1:i / 64=(i-64) / 64+1:=by omega
     have h2:(i-64) % 64=i % 64:=by omega
     rw [h1,h2]
     rfl
theorem Z4H:∀ {l:List Nat},(∀ j,l.getD j 0=0)→ofW l=0
 | [],_=>rfl
 | x :: r, h => by
   have h0:x=0:=h 0
   have hr:ofW r=0:=Z4H fun j=>h (j+1)
   simp [ofW,h0,hr]
theorem Za5:∀ {l:List Nat} {k:Nat},(∀ j,k≤j→l.getD j 0=0)→ofW (l.take k)=ofW l
 | [],k,_=>by simp
 | x :: r,0,h=>by simp only [List.take_zero]; exact (Z4H fun j=>h j (Nat.zero_le _)).symm
 | x :: r, k + 1, h => by
   simp only [List.take_succ_cons,ofW]
   rw [Za5 (l:=r) (k:=k) fun j hj=>h (j+1) (by omega)]
def digs (N:Nat):List Nat:=if h:N=0 then [] else N % 18446744073709551616 :: digs (N / 18446744073709551616)
termination_by N
decreasing_by omega
theorem Zr:digs 0 = []:=by rw [digs]; simp
theorem Z1Z {N:Nat} (h:N≠0):digs N=N % 18446744073709551616 :: digs (N / 18446744073709551616):=by rw [digs]; simp [h]
theorem Z1v (N:Nat):Words (digs N):=by
 induction N using Nat.strongRecOn with
 | _ N ih =>
   by_cases h:N=0
   · rw [h,Zr]; intro x hx; cases hx
   · rw [Z1Z h]
     intro x hx
     rcases List.mem_cons.1 hx with rfl|hx
     · omega
     · exact ih _ (by omega) x hx
theorem Z4I (N:Nat):ofW (digs N)=N:=by
 induction N using Nat.strongRecOn with
 | _ N ih =>
   by_cases h:N=0
   · rw [h,Zr]; rfl
   · rw [Z1Z h,ofW,ih _ (by omega)]; omega
def Canon (l:List Nat):Prop:=l.length=0 ∨ l.getD (l.length-1) 0≠0
theorem Za6:∀ {l:List Nat},Words l→Canon l→digs (ofW l)=l
 | [],_,_=>by simp [ofW,Zr]
 | x :: r, h, hc => by
   have hx:x<18446744073709551616:=h x (by simp)
   have hr:Words r:=fun y hy=>h y (by simp [hy])
   have hcr:Canon r:=by
    cases r with
    | nil=>exact .inl rfl
    | cons y s => refine .inr ?_; rcases hc with hc | hc
                  · simp at hc
                  · simpa using hc
   have ih:=Za6 hr hcr
   have hne:ofW (x :: r)≠0:=by
    simp only [ofW]
    cases r with
    | nil => rcases hc with hc | hc
             · simp at hc
             · simp at hc; simp [ofW]; exact hc
    | cons y s =>
      have:ofW (y :: s)≠0:=fun h0=>by rw [h0,Zr] at ih; cases ih
      omega
   have h1:ofW (x :: r) % 18446744073709551616=x:=by simp only [ofW]; omega
   have h2:ofW (x :: r) / 18446744073709551616=ofW r:=by simp only [ofW]; omega
   rw [Z1Z hne,h1,h2,ih]
def setN (N:Nat):PV:=setP (digs N)
theorem Z1 (N:Nat):(setN N).pure:=Z2g _
theorem Za7 {l:List Nat} (h:Words l) (hc:Canon l):setP l=setN (ofW l):=by rw [setN,Za6 h hc]
theorem IsTrim.set {l:List Nat} (hl:Words l) {r:PV} (h:IsTrim l r):r=setN (ofW l):=by
 obtain⟨k,hk,hz,hn,rfl⟩:=h
 rw [← Za5 hz]
 refine Za7 (fun x hx=>hl x (List.mem_of_mem_take hx)) ?_
 rcases hn with rfl|hn
 · exact .inl (by simp)
 · by_cases h0 : k = 0
   · subst h0; exact .inl (by simp)
   · refine .inr ?_
     have e:(l.take k).length=k:=by simp [hk]
     rw [e]
     simpa [List.getD_eq_getElem?_getD,List.getElem?_take,show k-1<k by omega] using hn
theorem Z7K (l:List Nat) (k v:Nat):(words l).set k [.val (.int .u64 (v:Int))]=words (l.set k v):=by simp [words,List.map_set]
theorem Words.set {l:List Nat} (h:Words l) (k:Nat) {v:Nat} (hv:v<18446744073709551616):Words (l.set k v):=fun x hx=>by
 rcases List.mem_or_eq_of_mem_set hx with hx|rfl
 · exact h x hx
 · exact hv
theorem Zf2 {l:List Nat} (h:Words l) {k j:Nat} (hk:k<l.length) (hj:j<64):ofW (l.set k (l.getD k 0 ||| 2 ^ j))=ofW l ||| 2 ^ (64*k+j):=by
 have hv:l.getD k 0 ||| 2 ^ j<18446744073709551616:=Nat.or_lt_two_pow (n:=64) (h.getD k) (Nat.pow_lt_pow_right (by omega) hj)
 refine Nat.eq_of_testBit_eq fun i=>?_
 rw [Z1S (h.set k hv),Nat.testBit_or,Z1S h,Nat.testBit_two_pow]
 by_cases hik:i / 64=k
 · subst hik
   have:(l.set (i / 64) (l.getD (i / 64) 0 ||| 2 ^ j)).getD (i / 64) 0=l.getD (i / 64) 0 ||| 2 ^ j:=by simp [List.getD_eq_getElem?_getD,hk]
   rw [this,Nat.testBit_or,Nat.testBit_two_pow]
   congr 1
   rw [decide_eq_decide]
   omega
 · have : (l.set k (l.getD k 0 ||| 2 ^ j)).getD (i / 64) 0 = l.getD (i / 64) 0 := by
    simp only [List.getD_eq_getElem?_getD,List.getElem?_set,if_neg (Ne.symm hik)]
   rw [this]
   have:¬ (64*k+j=i):=by omega
   simp [this]
def maskTo (top:Int) (l:List Int):Nat:=l.foldl (fun acc i=>if 0≤i∧i≤top then acc ||| 2 ^ i.toNat else acc) 0
def topOf (l:List Int):Int:=l.foldl (fun t i=>if i≤4095 then (if i>t then i else t) else t) (-1)
theorem Z6b {l:List Int} {i:Nat} (hi:i<l.length):topOf (l.take (i+1))=if l[i]≤4095 then (if l[i]>topOf (l.take i) then l[i] else topOf (l.take i)) else topOf (l.take i):=by
 simp only [topOf,List.take_add_one,List.getElem?_eq_getElem hi,Option.toList_some,List.foldl_append,List.foldl_cons,List.foldl_nil]
 rfl
theorem topOf_take' {l:List Int} {i:Nat} (hi:i<l.length) (h:l[i]≤4095):topOf (l.take (i+1))=if l[i]>topOf (l.take i) then l[i] else topOf (l.take i):=by rw [Z6b hi,if_pos h]
theorem Z8U {l:List Int} {i:Nat} (hi:i<l.length) (h:¬ l[i]≤4095):topOf (l.take (i+1))=topOf (l.take i):=by rw [Z6b hi,if_neg h]
theorem Z4Z {t:Int} {l:List Int} {i:Nat} (hi:i<l.length):maskTo t (l.take (i+1))=if 0≤l[i]∧l[i]≤t then maskTo t (l.take i) ||| 2 ^ l[i].toNat else maskTo t (l.take i):=by
 simp only [maskTo,List.take_add_one,List.getElem?_eq_getElem hi,Option.toList_some,List.foldl_append,List.foldl_cons,List.foldl_nil]
theorem Z8V:∀ (l:List Int),-1≤topOf l∧topOf l≤4095:=by
 intro l
 have:∀ (l:List Int) (t:Int),-1≤t→t≤4095 → -1≤l.foldl (fun t i=>if i≤4095 then (if i>t then i else t) else t) t∧l.foldl (fun t i=>if i≤4095 then (if i>t then i else t) else t) t≤4095:=by
  intro l
  induction l with
  | nil=>intro t h1 h2; exact⟨h1,h2⟩
  | cons x r ih =>
    intro t h1 h2
    simp only [List.foldl_cons]
    refine ih _ ?_ ?_
    · split
      · split<;>omega
      · exact h1
    · split
      · split<;>omega
      · exact h2
 exact this l (-1) (by omega) (by omega)
theorem Zb5 {t:Int} {l:List Int} (h:t<0):maskTo t l=0:=by
 have:∀ (l:List Int) (a:Nat),l.foldl (fun acc i=>if 0≤i∧i≤t then acc ||| 2 ^ i.toNat else acc) a=a:=by
  intro l
  induction l with
  | nil=>intro a; rfl
  | cons x r ih=>intro a; simp only [List.foldl_cons]; rw [if_neg (by omega)]; exact ih a
 exact this l 0
theorem Z9 (l:List Int):pureLL (nums l):=Z2f _ _ fun _ _=>⟨trivial,trivial⟩
theorem Zt (l:List Int) (D:Nat→Prop):innLL D (nums l):=Zi (fun _ h=>h.elim) _ (Z9 l)
theorem ZA (l:List Nat) (D:Nat→Prop):innLL D (words l):=Zi (fun _ h=>h.elim) _ (Zd l)
set_option maxHeartbeats 1000000 in
theorem Z6X (l:List Int) (fl:Bool):Spec Tryz.prog 14 [.vec (nums l) fl] (· = setN (maskTo (topOf l) l)):=by
 refine Z2 ok14 (Nat.le_of_ble_eq_true rfl) fun C hC=>?_
 refine Z3B (k:=0) rfl fun hmax=>?_
 have hlm:l.length≤maxVec:=by simpa [nums] using hmax
 have hnl:(nums l).length=l.length:=by simp [nums]
 (refine go ?_;repeat' (apply B<;>intro hb<;>try cases hb))
 refine Z3D (fun i=>i≤l.length) (fun i=>l.length-i) (fun i => [(0,.vec (nums l) fl),(2,.ptr 0 0 0),(3,.val (.int .i64 (topOf (l.take i)))),(9,.vec (nums l) fl),(10,.val (.int .i64 (l.length:Int))),(11,.val (.int .i64 (i:Int)))]) 0 (Nat.zero_le _) ⟨rfl,rfl,rfl,rfl,by rw [← hnl]; rfl,rfl,trivial⟩ ?_
 intro i hi
 have hinc:IntKind.i64.wrap ((i:Int)+1)=((i+1:Nat):Int):=IntWalk.i64_in _ ⟨by omega,by simp only [maxVec] at hlm; omega⟩
 (refine go ?_;repeat' (apply B<;>intro hb<;>try cases hb))
 · have hil : i < l.length := by simpa using hb
   refine Z5 (Zl (xs:=l) rfl rfl i rfl hil rfl) rfl rfl ?_
   (refine go ?_;repeat' (apply B<;>intro hb<;>try cases hb))
   · refine ⟨i + 1, by omega, by omega, rfl, rfl, ⟨rfl, rfl, ?_, rfl, rfl, by show some _ = some _; rw [hinc], trivial⟩⟩
     rw [topOf_take' hil (by simpa using hb)]; rfl
   · refine ⟨i + 1, by omega, by omega, rfl, rfl, ⟨rfl, rfl, ?_, rfl, rfl, by show some _ = some _; rw [hinc], trivial⟩⟩
     rw [Z8U hil (by simpa using hb)]; rfl
 · -- no member
   rename_i hb2
   have hil:i=l.length:=by simp at hb2; omega
   subst hil
   refine Z3e rfl ⟨trivial,trivial⟩ ?_
   rw [List.take_length] at hb
   have hlt:topOf l<0:=by simpa using hb
   rw [Zb5 hlt,setN,Zr]
   rfl
 · rename_i hb2
   have hil:i=l.length:=by simp at hb2; omega
   subst hil
   rw [List.take_length] at hb ⊢
   have hge:0≤topOf l:=by simpa using hb
   obtain⟨t,ht⟩:∃ t:Nat,topOf l=t:=⟨(topOf l).toNat,by omega⟩
   have htr:=(Z8V l).2
   rw [ht] at htr ⊢
   have hq:IntKind.i64.wrap ((t:Int).tdiv 64)=((t / 64:Nat):Int):=by
    rw [IntWalk.i64_quo _ _ ⟨by omega,by omega,by omega⟩]; omega
   have hq1:IntKind.i64.wrap (((t / 64:Nat):Int)+1)=((t / 64+1:Nat):Int):=IntWalk.i64_in _ ⟨by omega,by omega⟩
   rw [hq,hq1]
   refine ZL (Z6T (a:=t / 64+1) (b:=t / 64+1) rfl rfl (Nat.le_refl _) (by omega)) rfl rfl ?_
   have hrep:List.replicate (t / 64+1) (zpv [Value.int .u64 0])=words (List.replicate (t / 64+1) 0):=by simp [words,zpv,pvOf]
   rw [hrep]
   (refine go ?_;repeat' (apply B<;>intro hb<;>try cases hb))
   refine ZD hC (fun (x:Nat×List Nat)=>x.1≤l.length∧x.2.length=t / 64+1∧Words x.2∧ofW x.2=maskTo t (l.take x.1)) (fun x=>l.length-x.1) 2 (fun x => [(2,.ptr 0 0 0),(3,.val (.int .i64 (t:Int))),(6,.own 1),(28,.vec (nums l) fl),(29,.val (.int .i64 (l.length:Int))),(30,.val (.int .i64 (x.1:Int)))])
    (fun x => [(0,⟨1,[[.vec [] true]]⟩),(1,⟨1,words x.2⟩)]) (by omega) (0,List.replicate (t / 64+1) 0) ⟨Nat.zero_le _,by simp,fun x hx=>by obtain rfl:=List.eq_of_mem_replicate hx; omega,?_⟩ ⟨⟨rfl,show (0:Nat)<2 by decide⟩,⟨rfl,trivial⟩,⟨rfl,show (1:Nat)<2 by decide⟩,⟨rfl,Zt _ _⟩,⟨by rw [← hnl]; rfl,trivial⟩,⟨rfl,trivial⟩,trivial⟩
    ⟨⟨by omega,rfl,⟨trivial,trivial⟩,trivial⟩,⟨by omega,rfl,ZA _ _⟩,trivial⟩ ?_
   · rw [Z4H fun j=>by simp [List.getD_eq_getElem?_getD,List.getElem?_replicate]; split<;>rfl]; rfl
   rintro⟨i,ws⟩ ⟨hi,hwl,hww,hmask⟩
   simp only at hi hwl hww hmask
   have hinc:IntKind.i64.wrap ((i:Int)+1)=((i+1:Nat):Int):=IntWalk.i64_in _ ⟨by omega,by simp only [maxVec] at hlm; omega⟩
   (refine go ?_;repeat' (apply B<;>intro hb<;>try cases hb))
   · have hil : i < l.length := by simpa using hb
     refine Z5 (Zl (xs:=l) rfl rfl i rfl hil rfl) rfl rfl ?_
     (refine go ?_;repeat' (apply B<;>intro hb<;>try cases hb))
     · have h0 : 0 ≤ l[i] := by rename_i h0; simpa using h0
       have h1:l[i]≤(t:Int):=by simpa using hb
       have hm:maskTo t (l.take (i+1))=maskTo t (l.take i) ||| 2 ^ l[i].toNat:=by rw [Z4Z hil,if_pos ⟨h0,h1⟩]
       obtain⟨j,hj⟩:∃ j:Nat,l[i]=j:=⟨l[i].toNat,by omega⟩
       rw [hj] at h1 hm ⊢
       rw [Int.toNat_natCast] at hm
       have hjq:IntKind.i64.wrap ((j:Int).tdiv 64)=((j / 64:Nat):Int):=by
        rw [IntWalk.i64_quo _ _ ⟨by omega,by omega,by omega⟩]; omega
       have hjr:(j:Int).tmod 64=((j % 64:Nat):Int):=by
        rw [Int.tmod_eq_emod_of_nonneg (by omega)]; omega
       rw [hjq]
       have hjl:j / 64<ws.length:=by omega
       have hel:(words ws).getD (j / 64) [] = [.val (.int .u64 (ws.getD (j / 64) 0:Nat))]:=by simp [words,List.getD_eq_getElem?_getD,hjl]
       have hj64:j % 64<64:=Nat.mod_lt _ (by omega)
       have hwn:(words ws).length=ws.length:=by simp [words]
       refine Zp (ZM rfl rfl rfl (j / 64) rfl (by rw [hwn]; exact hjl) rfl) rfl rfl ?_
       refine Zp (Z3C rfl rfl (by rw [hwn]; exact hjl) (by rw [hel]; rfl)) rfl rfl ?_
       (first|refine st ?_|(apply B<;>intro hb<;>try cases hb))
       refine Zp (Z2p rfl hjr) rfl rfl ?_
       refine Zp (Ze9 rfl rfl (by omega) (v:=((2 ^ (j % 64):Nat):Int)) (by
        rw [show min (((j % 64:Nat):Int)).toNat IntKind.u64.bits=j % 64 by simp [IntKind.bits]; omega]
        have:2 ^ (j % 64)<2 ^ 64:=Nat.pow_lt_pow_right (by omega) hj64
        rw [Int.one_mul,show (2:Int) ^ (j % 64)=((2 ^ (j % 64):Nat):Int) by simp]
        exact IntWalk.u64_in _ ⟨Int.natCast_nonneg _,Int.ofNat_le.2 (show _≤18446744073709551615 by omega)⟩)) rfl rfl ?_
       refine Zp (Z2p rfl (bits_or_u64_nat _ _ (hww.getD _) (show 2 ^ (j % 64)<2 ^ 64 from Nat.pow_lt_pow_right (by omega) hj64))) rfl rfl ?_
       refine Zp (ZM rfl rfl rfl (j / 64) rfl (by rw [hwn]; exact hjl) rfl) rfl rfl ?_
       refine Zp (Z2D rfl rfl rfl rfl rfl (by rw [hwn]; exact hjl) (Nat.le_refl _)) rfl rfl ?_
       rw [hel,show setAt [PV.val (Value.int .u64 (ws.getD (j / 64) 0:Nat))] 0 (PV.val (Value.int .u64 ((ws.getD (j / 64) 0 ||| 2 ^ (j % 64):Nat):Int))).cells = [.val (.int .u64 ((ws.getD (j / 64) 0 ||| 2 ^ (j % 64):Nat):Int))] from rfl]
       simp only
       rw [Z7K]
       (refine go ?_;repeat' (apply B<;>intro hb<;>try cases hb))
       refine⟨(i+1,ws.set (j / 64) (ws.getD (j / 64) 0 ||| 2 ^ (j % 64))),⟨by simp only; omega,by simpa using hwl,hww.set _ (Nat.or_lt_two_pow (n:=64) (hww.getD _) (Nat.pow_lt_pow_right (a:=2) (by omega) hj64)),?_⟩,by simp only; omega,⟨⟨rfl,show (0:Nat)<2 by decide⟩,⟨rfl,trivial⟩,⟨rfl,show (1:Nat)<2 by decide⟩,⟨rfl,Zt _ _⟩,⟨rfl,trivial⟩,⟨by show some _=some _; rw [hinc],trivial⟩,trivial⟩,⟨⟨by omega,rfl,⟨trivial,trivial⟩,trivial⟩,⟨by omega,rfl,ZA _ _⟩,trivial⟩⟩
       simp only
       rw [Zf2 hww hjl hj64,hm,hmask,show 64*(j / 64)+j % 64=j by omega]
     all_goals
      refine⟨(i+1,ws),⟨by simp only; omega,hwl,hww,?_⟩,by simp only; omega,⟨⟨rfl,show (0:Nat)<2 by decide⟩,⟨rfl,trivial⟩,⟨rfl,show (1:Nat)<2 by decide⟩,⟨rfl,Zt _ _⟩,⟨rfl,trivial⟩,⟨by show some _=some _; rw [hinc],trivial⟩,trivial⟩,⟨⟨by omega,rfl,⟨trivial,trivial⟩,trivial⟩,⟨by omega,rfl,ZA _ _⟩,trivial⟩⟩
      simp only
      rw [Z4Z hil,if_neg (by simp at hb;omega)]
      exact hmask
   · have hil : i = l.length := by simp at hb; omega
     subst hil
     refine Zg (Zk (k:=52) rfl rfl (Zd ws)) ?_
     refine Zz rfl rfl (Z2E ws) ⟨Zd ws,trivial⟩ rfl fun r hr=>?_
     obtain rfl:=hr.set hww
     (refine go ?_;repeat' (apply B<;>intro hb<;>try cases hb))
     exact Z3 (r:=setN (ofW ws)) rfl (Z1 _) (by rw [hmask,List.take_length])
theorem Z20 (a k:Nat):Int.fdiv (a:Int) (2 ^ k)=((a / 2 ^ k:Nat):Int):=by
 rw [Int.fdiv_eq_ediv_of_nonneg _ (by exact Int.le_of_lt (Int.pow_pos (by omega)))]
 simp
theorem Za8 (l:List Nat) (hl:Words l) (i:Int):Spec Tryz.prog 42 [setP l,.val (.int .i64 i)] (· = .val (.bool (decide (0≤i∧i≤4095)&&(l.getD (i.toNat / 64) 0).testBit (i.toNat % 64)))):=by
 refine Z2 ok42 (Nat.le_of_ble_eq_true rfl) fun C hC=>?_
 refine Zh ?_
 refine Za ?_
 refine Z6 rfl rfl rfl ?_
 (refine go ?_;repeat' (apply B<;>intro hb<;>try cases hb))
 · rename_i h0
   have h1:0≤i:=by simpa using h0
   have h2:i≤4095:=by simpa using hb
   obtain⟨j,rfl⟩:∃ j:Nat,i=j:=⟨i.toNat,by omega⟩
   have hq:IntKind.i64.wrap ((j:Int).tdiv 64)=((j / 64:Nat):Int):=by
    rw [IntWalk.i64_quo _ _ ⟨by omega,by omega,by omega⟩]; omega
   have hr:(j:Int).tmod 64=((j % 64:Nat):Int):=by
    rw [Int.tmod_eq_emod_of_nonneg (by omega)]; omega
   refine Z7 (ZV l (j / 64)) rfl rfl (by show [_,_]=_; rw [hq]; rfl) ⟨Z2g l,trivial,trivial⟩ rfl ?_
   refine Zv rfl ?_
   (first|refine st ?_|(apply B<;>intro hb<;>try cases hb))
   refine Zv rfl ?_
   refine Zo rfl rfl rfl hr ?_
   refine Zv rfl ?_
   have hw:=hl.getD (j / 64)
   have hm:j % 64<64:=Nat.mod_lt _ (by omega)
   refine Ze7 rfl rfl (by omega) (v:=((l.getD (j / 64) 0 / 2 ^ (j % 64):Nat):Int)) (by
    rw [show min (((j % 64:Nat):Int)).toNat IntKind.u64.bits=j % 64 by simp [IntKind.bits]; omega]
    exact Z20 _ _) rfl ?_
   refine Zv rfl ?_
   refine Zo rfl rfl rfl (and_one_u64 _ (Int.natCast_nonneg _) (by
    have:=Nat.div_le_self (l.getD (j / 64) 0) (2 ^ (j % 64))
    exact Int.ofNat_le.2 (show _≤18446744073709551615 by omega))) ?_
   have ht:(((l.getD (j / 64) 0 / 2 ^ (j % 64):Nat):Int) % 2 == 1)=(l.getD (j / 64) 0).testBit (j % 64):=by
    rw [Nat.testBit_eq_decide_div_mod_eq,Bool.eq_iff_iff]
    generalize l.getD (j / 64) 0 / 2 ^ (j % 64)=z
    simp only [beq_iff_eq,decide_eq_true_eq]
    omega
   have ht':(decide (0≤(j:Int)∧(j:Int)≤4095)&&(l.getD ((j:Int).toNat / 64) 0).testBit ((j:Int).toNat % 64))=(l.getD (j / 64) 0).testBit (j % 64):=by
    simp only [Int.toNat_natCast,decide_eq_true (show 0≤(j:Int)∧(j:Int)≤4095 from ⟨h1,h2⟩),Bool.true_and]
   rw [ht',← ht]
   refine Zv rfl ?_
   generalize (((l.getD (j / 64) 0 / 2 ^ (j % 64):Nat):Int) % 2)=z
   (refine go ?_;repeat' (apply B<;>intro hb<;>try cases hb))
   all_goals exact Z3 rfl trivial (by rw [hb])
 · exact Z3 rfl trivial (by simp at hb ⊢;omega)
 · exact Z3 rfl trivial (by simp at hb ⊢;omega)
def popK:Nat→Nat→Nat
 | 0,_=>0
 | k+1,x=>x % 2+popK k (x / 2)
theorem Za9:∀ (j k x:Nat),popK (j+k) x=popK j x+popK k (x / 2 ^ j)
 | 0,k,x=>by simp [popK]
 | j + 1, k, x => by
   rw [show j+1+k=(j+k)+1 by omega]
   simp only [popK]
   rw [Za9 j k,Nat.div_div_eq_div_mul,Nat.pow_succ,Nat.mul_comm 2]
   omega
theorem Zaa:∀ (j x:Nat),popK j (x % 2 ^ j)=popK j x
 | 0,x=>rfl
 | j + 1, x => by
   simp only [popK]
   have h1:x % 2 ^ (j+1) % 2=x % 2:=Nat.mod_mod_of_dvd _ ⟨2 ^ j,by rw [Nat.pow_succ,Nat.mul_comm]⟩
   have h2:x % 2 ^ (j+1) / 2=x / 2 % 2 ^ j:=by rw [Nat.pow_succ,Nat.mul_comm,Nat.mod_mul_right_div_self]
   rw [h1,h2,Zaa]
theorem Z2F (a y c m:Nat) (ha:a<256) (hc:c<256):(a+256*y) &&& (c+256*m)=(a &&& c)+256*(y &&& m):=by
 have e1:a+256*y=2 ^ 8*y+a:=by omega
 have e2:c+256*m=2 ^ 8*m+c:=by omega
 have hac:a &&& c<2 ^ 8:=Nat.and_lt_two_pow _ (by omega)
 rw [e1,e2,show (a &&& c)+256*(y &&& m)=2 ^ 8*(y &&& m)+(a &&& c) by omega]
 refine Nat.eq_of_testBit_eq fun i=>?_
 rw [Nat.testBit_and,Nat.testBit_two_pow_mul_add _ (by omega:a<2 ^ 8),Nat.testBit_two_pow_mul_add _ (by omega:c<2 ^ 8),Nat.testBit_two_pow_mul_add _ hac]
 by_cases hi:i<8
 · rw [if_pos hi,if_pos hi,if_pos hi,Nat.testBit_and]
 · rw [if_neg hi,if_neg hi,if_neg hi,Nat.testBit_and]
def rep (c:Nat):Nat→Nat
 | 0=>0
 | n+1=>c+256*rep c n
def s1 (m x:Nat):Nat:=(x / 2 &&& m)+(x &&& m)
def s2 (m x:Nat):Nat:=(x / 4 &&& m)+(x &&& m)
def s3 (m x:Nat):Nat:=(x / 16+x) &&& m
theorem Zfk (a b:Nat) (ha:a<256) (hb:b<2):(a / 2+128*b) &&& 85=a / 2 &&& 85:=by
 have:∀ b:Fin 2,∀ a:Fin 256,(a.1 / 2+128*b.1) &&& 85=a.1 / 2 &&& 85:=by decide +kernel
 exact this ⟨b,hb⟩ ⟨a,ha⟩
theorem Zfl (a b:Nat) (ha:a<256) (hb:b<4):(a / 4+64*b) &&& 51=a / 4 &&& 51:=by
 have:∀ b:Fin 4,∀ a:Fin 256,(a.1 / 4+64*b.1) &&& 51=a.1 / 4 &&& 51:=by decide +kernel
 exact this ⟨b,hb⟩ ⟨a,ha⟩
theorem Zfm (n a y:Nat) (ha:a<256):s1 (rep 85 (n+1)) (a+256*y)=s1 85 a+256*s1 (rep 85 n) y:=by
 have h1:(a+256*y) / 2=(a / 2+128*(y % 2))+256*(y / 2):=by omega
 simp only [s1,rep]
 rw [h1,Z2F _ _ _ _ (by omega) (by omega),Z2F _ _ _ _ ha (by omega),Zfk a _ ha (Nat.mod_lt _ (by omega))]
 omega
theorem Zfn (n a y:Nat) (ha:a<256):s2 (rep 51 (n+1)) (a+256*y)=s2 51 a+256*s2 (rep 51 n) y:=by
 have h1:(a+256*y) / 4=(a / 4+64*(y % 4))+256*(y / 4):=by omega
 simp only [s2,rep]
 rw [h1,Z2F _ _ _ _ (by omega) (by omega),Z2F _ _ _ _ ha (by omega),Zfl a _ ha (Nat.mod_lt _ (by omega))]
 omega
theorem Z50:∀ a:Fin 256,s1 85 a.1<256∧s2 51 (s1 85 a.1)<256∧s2 51 (s1 85 a.1) % 16≤4∧s2 51 (s1 85 a.1) / 16≤4∧s3 15 (s2 51 (s1 85 a.1))=popK 8 a.1∧popK 8 a.1≤8:=by decide +kernel
theorem Zfo (n a y:Nat) (ha:a % 16≤4) (ha':a / 16≤4) (hy:y % 16≤4):s3 (rep 15 (n+1)) (a+256*y)=s3 15 a+256*s3 (rep 15 n) y:=by
 have h1:(a+256*y) / 16+(a+256*y)=(a / 16+a+16*(y % 16))+256*(y / 16+y):=by omega
 simp only [s3,rep]
 rw [h1,Z2F _ _ _ _ (by omega) (by omega)]
 congr 1
 rw [show (15:Nat)=2 ^ 4-1 from rfl,Nat.and_two_pow_sub_one_eq_mod,Nat.and_two_pow_sub_one_eq_mod]
 omega
def pops:Nat→Nat→Nat
 | 0,_=>0
 | n+1,x=>popK 8 (x % 256)+256*pops n (x / 256)
theorem s123:∀ (n x:Nat),x<256 ^ n→s2 (rep 51 n) (s1 (rep 85 n) x) % 16≤4∧s3 (rep 15 n) (s2 (rep 51 n) (s1 (rep 85 n) x))=pops n x
 | 0, x, hx => by
   obtain rfl:x=0:=by simpa using hx
   decide
 | n + 1, x, hx => by
   have hx':x / 256<256 ^ n:=by rw [Nat.pow_succ] at hx; omega
   obtain⟨h1,h2⟩:=s123 n (x / 256) hx'
   have hm:x % 256<256:=Nat.mod_lt _ (by omega)
   obtain⟨b1,b2,b3,b4,b5,_⟩:=Z50 ⟨x % 256,hm⟩
   simp only at b1 b2 b3 b4 b5
   have ex:x=x % 256+256*(x / 256):=by omega
   have e1:s1 (rep 85 (n+1)) x=s1 85 (x % 256)+256*s1 (rep 85 n) (x / 256):=by
    conv=>lhs; rw [ex]
    exact Zfm n _ _ hm
   rw [e1,Zfn n _ _ b1]
   refine⟨by omega,?_⟩
   rw [Zfo n _ _ b3 b4 h1,b5,h2]
   rfl
def val8:List Nat→Nat
 | []=>0
 | a :: r=>a+256*val8 r
theorem Z6Y {a:Nat} {r:List Nat} (h:a<256):val8 (a :: r) / 256=val8 r:=by simp only [val8]; omega
theorem Z51 {a b:Nat} {r:List Nat} (h:a<256) (h':b<256):val8 (a :: b :: r) / 65536=val8 r:=by
 rw [show 65536=256*256 from rfl,← Nat.div_div_eq_div_mul,Z6Y h,Z6Y h']
theorem Zcv {a b c d:Nat} {r:List Nat} (h:a<256) (h':b<256) (h2:c<256) (h3:d<256):val8 (a :: b :: c :: d :: r) / 4294967296=val8 r:=by
 rw [show 4294967296=65536*65536 from rfl,← Nat.div_div_eq_div_mul,Z51 h h',Z51 h2 h3]
theorem fold1 {a b c d e f g i:Nat} (ha:a≤8):val8 [a,b,c,d,e,f,g,i]+val8 [a,b,c,d,e,f,g,i] / 256=val8 [a+b,b+c,c+d,d+e,e+f,f+g,g+i,i]:=by
 rw [Z6Y (by omega)]; simp only [val8]; omega
theorem fold2 {a b c d e f g i:Nat} (ha:a≤16) (hb:b≤16):val8 [a,b,c,d,e,f,g,i]+val8 [a,b,c,d,e,f,g,i] / 65536=val8 [a+c,b+d,c+e,d+f,e+g,f+i,g,i]:=by
 rw [Z51 (by omega) (by omega)]; simp only [val8]; omega
theorem fold4 {a b c d e f g i:Nat} (ha:a≤32) (hb:b≤32) (hc:c≤32) (hd:d≤32):val8 [a,b,c,d,e,f,g,i]+val8 [a,b,c,d,e,f,g,i] / 4294967296=val8 [a+e,b+f,c+g,d+i,e,f,g,i]:=by
 rw [Zcv (by omega) (by omega) (by omega) (by omega)]; simp only [val8]; omega
theorem Z1D {a m B:Nat} {r:List Nat} (h:a≤m) (hr:val8 r≤B):val8 (a :: r)≤m+256*B:=by simp only [val8]; omega
theorem Z42 {a b c d e f g i:Nat} (h1:a≤64) (h2:b≤64) (h3:c≤64) (h4:d≤64) (h5:e≤64) (h6:f≤64) (h7:g≤64) (h8:i≤64):val8 [a,b,c,d,e,f,g,i]<9223372036854775808 :=
 Nat.lt_of_le_of_lt (Z1D h1 (Z1D h2 (Z1D h3 (Z1D h4 (Z1D h5 (Z1D h6 (Z1D h7 (Z1D h8 (Nat.le_refl _))))))))) (by decide)
def byte (x i:Nat):Nat:=popK 8 (x / 256 ^ i % 256)
theorem Z2G (x i:Nat):byte x i≤8:=by
 obtain⟨_,_,_,_,_,b⟩:=Z50 ⟨x / 256 ^ i % 256,Nat.mod_lt _ (by omega)⟩
 exact b
theorem Zec (x:Nat):pops 8 x=val8 [byte x 0,byte x 1,byte x 2,byte x 3,byte x 4,byte x 5,byte x 6,byte x 7]:=by
 simp only [pops,val8,byte,Nat.div_div_eq_div_mul]
 simp only [Nat.reduceMul,Nat.reducePow,Nat.pow_zero,Nat.div_one]
theorem Zb6 (x:Nat):popK 64 x=byte x 0+byte x 1+byte x 2+byte x 3+byte x 4+byte x 5+byte x 6+byte x 7:=by
 have h:∀ n y,popK (8+n) y=popK 8 (y % 256)+popK n (y / 256):=fun n y=>by
  rw [Za9,show (256:Nat)=2 ^ 8 from rfl,Zaa]
 rw [show 64=8+(8+(8+(8+(8+(8+(8+(8+0))))))) from rfl]
 simp only [h,Nat.div_div_eq_div_mul]
 simp only [byte,Nat.reduceMul,Nat.reducePow,Nat.pow_zero,Nat.div_one]
 simp only [popK]
 omega
theorem Zed (x:Nat):∃ y z u:Nat,pops 8 x+pops 8 x / 256=y∧y+y / 65536=z∧z+z / 4294967296=u∧y<9223372036854775808∧z<9223372036854775808∧u<9223372036854775808∧u % 128=popK 64 x:=by
 have h0:=Z2G x 0
 have h1:=Z2G x 1
 have h2:=Z2G x 2
 have h3:=Z2G x 3
 have h4:=Z2G x 4
 have h5:=Z2G x 5
 have h6:=Z2G x 6
 have h7:=Z2G x 7
 rw [Zb6,Zec]
 generalize byte x 0=a at *
 generalize byte x 1=b at *
 generalize byte x 2=c at *
 generalize byte x 3=d at *
 generalize byte x 4=e at *
 generalize byte x 5=f at *
 generalize byte x 6=g at *
 generalize byte x 7=i at *
 refine⟨_,_,_,rfl,rfl,rfl,?_⟩
 rw [fold1 h0,fold2 (by omega) (by omega),fold4 (by omega) (by omega) (by omega) (by omega)]
 refine⟨?_,?_,?_,?_⟩
 · exact Z42 (by omega) (by omega) (by omega) (by omega) (by omega) (by omega) (by omega) (by omega)
 · exact Z42 (by omega) (by omega) (by omega) (by omega) (by omega) (by omega) (by omega) (by omega)
 · exact Z42 (by omega) (by omega) (by omega) (by omega) (by omega) (by omega) (by omega) (by omega)
 · simp only [val8]; omega
theorem rep85:rep 85 8=6148914691236517205:=rfl
theorem rep51:rep 51 8=3689348814741910323:=rfl
theorem w64 (k:Nat) (h:k<18446744073709551616):IntKind.u64.wrap (k:Int)=k:=IntWalk.u64_in _ ⟨by omega,by omega⟩
theorem step1 (x:Nat) (hx:x<18446744073709551616):IntKind.u64.wrap (bits .and .u64 (Int.fdiv (x:Int) (2 ^ (min (1:Int).toNat IntKind.u64.bits))) 6148914691236517205+bits .and .u64 (x:Int) 6148914691236517205)=((s1 (rep 85 8) x:Nat):Int)∧s1 (rep 85 8) x<18446744073709551616:=by
 have e1:Int.fdiv (x:Int) (2 ^ (min (1:Int).toNat IntKind.u64.bits))=((x / 2:Nat):Int):=Z20 x 1
 have b1:=bits_and_u64_nat (x / 2) 6148914691236517205 (by omega) (by omega)
 have b2:=bits_and_u64_nat x 6148914691236517205 hx (by omega)
 have h1:x / 2 &&& 6148914691236517205≤6148914691236517205:=Nat.and_le_right
 have h2:x &&& 6148914691236517205≤6148914691236517205:=Nat.and_le_right
 have hlt:s1 (rep 85 8) x<18446744073709551616:=by rw [rep85,s1]; omega
 refine⟨?_,hlt⟩
 rw [e1]
 refine (congrArg IntKind.u64.wrap (congr (congrArg (· + ·) b1) b2)).trans ?_
 rw [← Int.natCast_add]
 exact w64 _ hlt
theorem step2 (x:Nat) (hx:x<18446744073709551616):IntKind.u64.wrap (bits .and .u64 (Int.fdiv (x:Int) (2 ^ (min (2:Int).toNat IntKind.u64.bits))) 3689348814741910323+bits .and .u64 (x:Int) 3689348814741910323)=((s2 (rep 51 8) x:Nat):Int)∧s2 (rep 51 8) x<18446744073709551616:=by
 have e1:Int.fdiv (x:Int) (2 ^ (min (2:Int).toNat IntKind.u64.bits))=((x / 4:Nat):Int):=Z20 x 2
 have b1:=bits_and_u64_nat (x / 4) 3689348814741910323 (by omega) (by omega)
 have b2:=bits_and_u64_nat x 3689348814741910323 hx (by omega)
 have h1:x / 4 &&& 3689348814741910323≤3689348814741910323:=Nat.and_le_right
 have h2:x &&& 3689348814741910323≤3689348814741910323:=Nat.and_le_right
 have hlt:s2 (rep 51 8) x<18446744073709551616:=by rw [rep51,s2]; omega
 refine⟨?_,hlt⟩
 rw [e1]
 refine (congrArg IntKind.u64.wrap (congr (congrArg (· + ·) b1) b2)).trans ?_
 rw [← Int.natCast_add]
 exact w64 _ hlt
theorem step3 (x:Nat) (hx:x<9223372036854775808):bits .and .u64 (IntKind.u64.wrap (Int.fdiv (x:Int) (2 ^ (min (4:Int).toNat IntKind.u64.bits))+(x:Int))) 1085102592571150095=((s3 (rep 15 8) x:Nat):Int):=by
 have e1:Int.fdiv (x:Int) (2 ^ (min (4:Int).toNat IntKind.u64.bits))=((x / 16:Nat):Int):=Z20 x 4
 rw [e1,← Int.natCast_add,w64 _ (by omega)]
 exact bits_and_u64_nat (x / 16+x) 1085102592571150095 (by omega) (by omega)
theorem step45 (x k y:Nat) (kk:Int) (hk:min kk.toNat IntKind.u64.bits=k) (hy:x+x / 2 ^ k=y) (hlt:y<9223372036854775808):IntKind.u64.wrap ((x:Int)+Int.fdiv (x:Int) (2 ^ (min kk.toNat IntKind.u64.bits)))=((y:Nat):Int):=by
 rw [hk,Z20 x k,← Int.natCast_add,hy]
 exact w64 _ (by omega)
theorem and127 (x:Nat) (hx:x<9223372036854775808):bits .and .i64 (IntKind.i64.wrap (x:Int)) 127=((x % 128:Nat):Int):=by
 have h1:(BitVec.ofInt 64 (x:Int)).toNat=x:=by
  rw [BitVec.ofInt_natCast,BitVec.toNat_ofNat]; exact Nat.mod_eq_of_lt (by omega)
 have h2:(BitVec.ofInt 64 (127:Int)).toNat=127:=rfl
 rw [IntWalk.i64_in _ ⟨by omega,by omega⟩]
 show IntKind.i64.wrap ((BitVec.ofInt 64 (x:Int) &&& BitVec.ofInt 64 (127:Int)).toNat:Int)=_
 rw [BitVec.toNat_and,h1,h2,show (127:Nat)=2 ^ 7-1 from rfl,Nat.and_two_pow_sub_one_eq_mod]
 exact IntWalk.i64_in _ ⟨by omega,by omega⟩
theorem Zcw (x:Nat) (hx:x<18446744073709551616):Spec Tryz.prog 98 [.val (.int .u64 (x:Int))] (· = .val (.int .i64 (popK 64 x:Nat))):=by
 refine Z2 ok98 (Nat.le_of_ble_eq_true rfl) fun C hC=>?_
 obtain⟨a1,l1⟩:=step1 x hx
 obtain⟨a2,l2⟩:=step2 _ l1
 obtain⟨_,b3⟩:=s123 8 x (by rw [show (256:Nat) ^ 8=18446744073709551616 from rfl]; exact hx)
 have l3:s2 (rep 51 8) (s1 (rep 85 8) x)<9223372036854775808:=by
  have h1:s1 (rep 85 8) x / 4 &&& rep 51 8≤rep 51 8:=Nat.and_le_right
  have h2:s1 (rep 85 8) x &&& rep 51 8≤rep 51 8:=Nat.and_le_right
  rw [s2]
  rw [rep51] at *
  omega
 have a3:=step3 _ l3
 rw [b3] at a3
 obtain⟨y,z,u,f1,f2,f3,g1,g2,g3,g4⟩:=Zed x
 have a4:=step45 (pops 8 x) 8 y 8 rfl f1 g1
 have a5:=step45 y 16 z 16 rfl f2 g2
 have a6:=step45 z 32 u 32 rfl f3 g3
 have a7:=and127 u g3
 rw [g4] at a7
 iterate 11 (first|refine st ?_|(apply B<;>intro hb<;>try cases hb))
 refine Zo rfl rfl rfl a1 ?_
 iterate 9 (first|refine st ?_|(apply B<;>intro hb<;>try cases hb))
 refine Zo rfl rfl rfl a2 ?_
 iterate 8 (first|refine st ?_|(apply B<;>intro hb<;>try cases hb))
 refine Zo rfl rfl rfl a3 ?_
 iterate 7 (first|refine st ?_|(apply B<;>intro hb<;>try cases hb))
 refine Zo rfl rfl rfl a4 ?_
 iterate 7 (first|refine st ?_|(apply B<;>intro hb<;>try cases hb))
 refine Zo rfl rfl rfl a5 ?_
 iterate 7 (first|refine st ?_|(apply B<;>intro hb<;>try cases hb))
 refine Zo rfl rfl rfl a6 ?_
 iterate 6 (first|refine st ?_|(apply B<;>intro hb<;>try cases hb))
 refine Zo rfl rfl rfl a7 ?_
 (refine go ?_;repeat' (apply B<;>intro hb<;>try cases hb))
 exact Z3 rfl trivial rfl
inductive Fm where
 | mk (op n:Int) (roles:List Int) (args:List Fm)
def Fm.op:Fm→Int | .mk op _ _ _=>op
def Fm.n:Fm→Int | .mk _ n _ _=>n
def Fm.roles:Fm→List Int | .mk _ _ r _=>r
def Fm.args:Fm→List Fm | .mk _ _ _ a=>a
mutual
def Fm.depth:Fm→Nat
 | .mk _ _ _ args=>depthL args+1
def depthL:List Fm→Nat
 | []=>0
 | a :: r=>max a.depth (depthL r)
end
mutual
def Fm.size:Fm→Nat
 | .mk _ _ _ args=>sizeL args+1
def sizeL:List Fm→Nat
 | []=>0
 | a :: r=>a.size+sizeL r
end
theorem Fm.depth_eq (f:Fm):f.depth=depthL f.args+1:=by cases f; simp [Fm.depth,Fm.args]
theorem Fm.size_eq (f:Fm):f.size=sizeL f.args+1:=by cases f; simp [Fm.size,Fm.args]
theorem Z3G (l m:List Fm):depthL (l++m)=max (depthL l) (depthL m):=by
 induction l with
 | nil=>simp [depthL]
 | cons a r ih=>simp only [List.cons_append,depthL,ih]; omega
theorem Z4n (l m:List Fm):sizeL (l++m)=sizeL l+sizeL m:=by
 induction l with
 | nil=>simp [sizeL]
 | cons a r ih=>simp only [List.cons_append,sizeL,ih]; omega
theorem Z52 {l:List Fm} {i:Nat} (hi:i<l.length):depthL (l.take (i+1))=max (depthL (l.take i)) l[i].depth:=by
 have e:l.take (i+1)=l.take i ++ [l[i]]:=by rw [List.take_add_one,List.getElem?_eq_getElem hi]; rfl
 rw [e,Z3G]
 simp only [depthL]
 omega
theorem Z6c {l:List Fm} {i:Nat} (hi:i<l.length):sizeL (l.take (i+1))=sizeL (l.take i)+l[i].size:=by
 have e:l.take (i+1)=l.take i ++ [l[i]]:=by rw [List.take_add_one,List.getElem?_eq_getElem hi]; rfl
 rw [e,Z4n]
 simp only [sizeL]
 omega
theorem Z1O {l:List Fm} {i:Nat} (hi:i<l.length):l[i].depth≤depthL l:=by
 have:=Z52 hi
 have h2:=Z3G (l.take (i+1)) (l.drop (i+1))
 rw [List.take_append_drop] at h2
 omega
theorem Zab (l:List Fm) (i:Nat):sizeL (l.take i)≤sizeL l:=by
 have h2:=Z4n (l.take i) (l.drop i)
 rw [List.take_append_drop] at h2
 omega
theorem Z53 {l:List Fm} {i:Nat} (hi:i<l.length):l[i].size≤sizeL l:=by
 have:=Z6c hi
 have:=Zab l (i+1)
 omega
theorem Z26 (l:List Fm):l.length≤sizeL l:=by
 induction l with
 | nil=>simp [sizeL]
 | cons a r ih=>simp only [List.length_cons,sizeL]; have:=a.size_eq; omega
mutual
def cellsK (k:IntKind):Fm→List PV
 | .mk op n roles args => [.val (.int k op),.val (.int .i64 n),.vec (nums roles) false,.vec (cellsKL k args) false]
def cellsKL (k:IntKind):List Fm→List (List PV)
 | [] => []
 | a :: r=>cellsK k a :: cellsKL k r
end
def fC (k:IntKind) (f:Fm):List PV := [.val (.int k f.op),.val (.int .i64 f.n),.vec (nums f.roles) false,.vec (f.args.map (cellsK k)) false]
theorem Z6d (k:IntKind) (l:List Fm):cellsKL k l=l.map (cellsK k):=by
 induction l with
 | nil=>rfl
 | cons a r ih=>simp [cellsKL,ih]
theorem ZY (k:IntKind) (f:Fm):cellsK k f=fC k f:=by
 cases f; simp [cellsK,fC,Z6d,Fm.op,Fm.n,Fm.roles,Fm.args]
theorem Zy (k:IntKind) (f:Fm):(cellsK k f).length=4:=by rw [ZY]; rfl
mutual
theorem Z54 (k:IntKind):∀ f:Fm,pureL (cellsK k f)
 | .mk op n roles args=>⟨trivial,trivial,Z9 roles,Z2H k args,trivial⟩
theorem Z2H (k:IntKind):∀ l:List Fm,pureLL (cellsKL k l)
 | []=>trivial
 | a :: r=>⟨Z54 k a,Z2H k r⟩
end
theorem Zm (k:IntKind) (f:Fm):pureL (fC k f):=ZY k f▸Z54 k f
theorem Zb7 (k:IntKind) (l:List Fm):pureLL (l.map (cellsK k)):=Z6d k l▸Z2H k l
theorem Z1E (k:IntKind) (l:List Fm) (D:Nat→Prop):innLL D (l.map (cellsK k)):=Zi (fun _ h=>h.elim) _ (Zb7 k l)
theorem Z7L (k:IntKind) (f:Fm) (D:Nat→Prop):innL D (fC k f):=ZJ (fun _ h=>h.elim) _ (Zm k f)
theorem Zcx (b:Bool):Spec Tryz.prog 107 [.val (.bool b)] (· = .val (.int .i64 (if b then 1 else 0))):=by
 refine Z2 ok107 (Nat.le_of_ble_eq_true rfl) fun C hC=>?_
 (refine go ?_;repeat' (apply B<;>intro hb<;>try cases hb))
 all_goals exact Z3 rfl trivial rfl
def operandsM (op:Int):Int:=if 8≤op then 2 else if op=7 then 1 else 0
def leastM (op:Int):Int:=if op=4 ∨ op=6 then 1 else if op=5 then 1 else 0
def mostM (op:Int):Int:=if op=4 ∨ op=6 then 1 else if op=5 then 8 else 0
theorem Zb8 (op:Int):Spec Tryz.prog 150 [.val (.int .u8 op)] (· = .tup [.val (.int .i64 (operandsM op)),.val (.int .i64 (leastM op)),.val (.int .i64 (mostM op))]):=by
 refine Z2 ok150 (Nat.le_of_ble_eq_true rfl) fun C hC=>?_
 (refine go ?_;repeat' (apply B<;>intro hb<;>try cases hb))
 all_goals refine Z3 rfl ⟨trivial,trivial,trivial,trivial⟩ ?_
 all_goals simp_all [operandsM,leastM,mostM,pvOf]
 all_goals try omega
def typeM (op:Int):Int:=if op=1 ∨ op=5 ∨ op=6 ∨ op=16 then 2 else 1
theorem Z3f (op:Int):Spec Tryz.prog 66 [.val (.int .u8 op)] (· = .val (.int .u8 (typeM op))):=by
 refine Z2 ok66 (Nat.le_of_ble_eq_true rfl) fun C hC=>?_
 (refine go ?_;repeat' (apply B<;>intro hb<;>try cases hb))
 all_goals refine Z3 rfl trivial ?_; simp_all [typeM,pvOf]
theorem Z7M:∀ (d:Nat) (f:Fm),f.depth≤d→d≤1000→f.size≤1099511627776→Spec Tryz.prog 96 [.agg (fC .u8 f)] (· = .tup [.val (.int .i64 f.depth),.val (.int .i64 f.size)]):=by
 intro d
 induction d with
 | zero=>intro f hf; rw [Fm.depth_eq] at hf; omega
 | succ d ih =>
   intro f hf hd hsz
   refine Z2 ok96 (Nat.le_of_ble_eq_true rfl) fun C hC=>?_
   refine Zh ?_
   refine Za ?_
   refine Z6 rfl rfl rfl ?_
   (refine go ?_;repeat' (apply B<;>intro hb<;>try cases hb))
   have hll:(f.args.map (cellsK .u8)).length=f.args.length:=by simp
   have hfs:=f.size_eq
   have hfd:=f.depth_eq
   have hlm:=Z26 f.args
   refine ZD hC (fun i=>i≤f.args.length) (fun i=>f.args.length-i) 0 (fun i => [(2,.val (.int .i64 (depthL (f.args.take i)))),(3,.val (.int .i64 (sizeL (f.args.take i)))),(9,.vec (f.args.map (cellsK .u8)) false),(10,.val (.int .i64 f.args.length)),(11,.val (.int .i64 (i:Int)))]) (fun _=>[]) (Nat.le_refl _) 0 (Nat.zero_le _)
    ⟨⟨rfl,trivial⟩,⟨rfl,trivial⟩,⟨rfl,Z1E _ _ _⟩,⟨by rw [← hll]; rfl,trivial⟩,⟨rfl,trivial⟩,trivial⟩ trivial ?_
   intro i hi
   have hinc:IntKind.i64.wrap ((i:Int)+1)=((i+1:Nat):Int):=IntWalk.i64_in _ ⟨by omega,by omega⟩
   (refine go ?_;repeat' (apply B<;>intro hb<;>try cases hb))
   · have hil : i < f.args.length := by simpa using hb
     refine Z5 (Zl (xs:=f.args) rfl rfl i rfl hil (Zy _ _)) rfl rfl ?_
     rw [ZY]
     (refine go ?_;repeat' (apply B<;>intro hb<;>try cases hb))
     have hdl:=Z1O hil
     have hsl:=Z53 hil
     have hsi:=Zab f.args (i+1)
     have htk:=Z6c hil
     refine Z7 (ih f.args[i] (by omega) (by omega) (by omega)) rfl rfl rfl ⟨Zm _ _,trivial⟩ rfl ?_
     (refine go ?_;repeat' (apply B<;>intro hb<;>try cases hb))
     refine⟨i+1,by omega,by omega,⟨⟨?_,trivial⟩,⟨?_,trivial⟩,⟨rfl,Z1E _ _ _⟩,⟨rfl,trivial⟩,⟨by show some _=some _; rw [hinc],trivial⟩,trivial⟩,trivial⟩
     · show some _ = some _
       rw [Z52 hil]
       congr 3
       omega
     · show some _ = some _
       congr 3
       rw [IntWalk.i64_in _ ⟨by omega,by omega⟩]
       omega
   · have hil : i = f.args.length := by simp at hb; omega
     subst hil
     rw [List.take_length] at *
     refine Z3 rfl ⟨trivial,trivial,trivial⟩ ?_
     rw [IntWalk.i64_in _ ⟨by omega,by omega⟩,IntWalk.i64_in _ ⟨by omega,by omega⟩,hfs,hfd]
     rfl
def wantM (op:Int):Int:=if op≥11 then 2 else 1
mutual
def fitsM:Fm→Bool
 | .mk op _ _ args=>fitsL (wantM op) args
def fitsL (w:Int):List Fm→Bool
 | []=>true
 | a :: r=>decide (typeM a.op=w)&&fitsM a&&fitsL w r
end
theorem Z4J (f:Fm):fitsM f=fitsL (wantM f.op) f.args:=by cases f; simp [fitsM,Fm.op,Fm.args]
theorem Z4o (w:Int) (l m:List Fm):fitsL w (l++m)=(fitsL w l&&fitsL w m):=by
 induction l with
 | nil=>simp [fitsL]
 | cons a r ih=>simp only [List.cons_append,fitsL,ih,Bool.and_assoc]
theorem Z6e {w:Int} {l:List Fm} {i:Nat} (hi:i<l.length):fitsL w (l.take (i+1))=(fitsL w (l.take i)&&(decide (typeM l[i].op=w)&&fitsM l[i])):=by
 have e:l.take (i+1)=l.take i ++ [l[i]]:=by rw [List.take_add_one,List.getElem?_eq_getElem hi]; rfl
 rw [e,Z4o]
 simp [fitsL]
theorem Z7N {w:Int} {l:List Fm} {i:Nat} (hi:i<l.length) (h:(decide (typeM l[i].op=w)&&fitsM l[i])=false):fitsL w l=false:=by
 have h2:=Z4o w (l.take (i+1)) (l.drop (i+1))
 rw [List.take_append_drop,Z6e hi,h] at h2
 simpa using h2
theorem Z7O:∀ (d:Nat) (f:Fm),f.depth≤d→Spec Tryz.prog 65 [.agg (fC .u8 f)] (· = .val (.bool (fitsM f))):=by
 intro d
 induction d with
 | zero=>intro f hf; rw [Fm.depth_eq] at hf; omega
 | succ d ih =>
   intro f hf
   have hll:(f.args.map (cellsK .u8)).length=f.args.length:=by simp
   have hfd:=f.depth_eq
   refine Z2 ok65 (Nat.le_of_ble_eq_true rfl) fun C hC=>?_
   refine Zh ?_
   refine Za ?_
   refine Z6 rfl rfl rfl ?_
   (refine go ?_;repeat' (apply B<;>intro hb<;>try cases hb))
   all_goals
    have hw:wantM f.op=(if f.op≥11 then 2 else 1):=rfl
    have hop':=hb
    simp only [decide_eq_true_eq,decide_eq_false_iff_not] at hop'
    first|rw [if_pos hop'] at hw|rw [if_neg hop'] at hw
    clear hb hop'
    refine Z3B (k:=10) rfl fun hmax=>?_
    rw [hll] at hmax
    refine ZD hC (fun i=>i≤f.args.length∧fitsL (wantM f.op) (f.args.take i)=true) (fun i=>f.args.length-i) 0 (fun i => [(3,.val (.int .u8 (wantM f.op))),(10,.vec (f.args.map (cellsK .u8)) false),(11,.val (.int .i64 f.args.length)),(12,.val (.int .i64 (i:Int)))]) (fun _=>[]) (Nat.le_refl _) 0 ⟨Nat.zero_le _,rfl⟩
     ⟨⟨by rw [hw]; rfl,trivial⟩,⟨rfl,Z1E _ _ _⟩,⟨by rw [← hll]; rfl,trivial⟩,⟨rfl,trivial⟩,trivial⟩ trivial ?_
    rintro i ⟨hi,hfit⟩
    have hinc:IntKind.i64.wrap ((i:Int)+1)=((i+1:Nat):Int):=IntWalk.i64_in _ ⟨by omega,by simp only [maxVec] at hmax; omega⟩
    (refine go ?_;repeat' (apply B<;>intro hb<;>try cases hb))
    · have hil : i < f.args.length := by simpa using hb
      refine Z5 (Zl (xs:=f.args) rfl rfl i rfl hil (Zy _ _)) rfl rfl ?_
      rw [ZY]
      (refine go ?_;repeat' (apply B<;>intro hb<;>try cases hb))
      have hdl:=Z1O hil
      refine Z7 (Z3f f.args[i].op) rfl rfl rfl ⟨trivial,trivial⟩ rfl ?_
      (refine go ?_;repeat' (apply B<;>intro hb<;>try cases hb))
      · refine Z3 rfl trivial ?_
        rw [Z4J,Z7N hil (by simp at hb; simp [hb])]
      · refine Z7 (ih f.args[i] (by omega)) rfl rfl rfl ⟨Zm _ _, trivial⟩ rfl ?_
        (refine go ?_;repeat' (apply B<;>intro hb<;>try cases hb))
        · refine Z3 rfl trivial ?_
          rw [Z4J,Z7N hil (by simp at hb; simp [hb])]
        · refine ⟨i + 1, ⟨by omega, ?_⟩, by omega, ⟨⟨rfl, trivial⟩, ⟨rfl, Z1E _ _ _⟩, ⟨rfl, trivial⟩, ⟨by show some _ = some _; rw [hinc], trivial⟩, trivial⟩, trivial⟩
          rename_i hne
          rw [Z6e hil,hfit]
          simp at hb hne
          simp [hb,hne]
    · have hil : i = f.args.length := by simp at hb; omega
      subst hil
      rw [List.take_length] at hfit
      exact Z3 rfl trivial (by rw [Z4J,hfit])
def badArity (f:Fm):Bool:=decide (f.op<1)||decide (f.op>16)||decide ((f.args.length:Int)≠operandsM f.op)
def badForm (f:Fm):Bool:=(decide (f.op≠1)&&decide (f.n≠0))||decide ((f.roles.length:Int)<leastM f.op)||decide ((f.roles.length:Int)>mostM f.op)
def badN (f:Fm):Bool:=decide (f.n<0)||decide (f.n>999999)
def inRange (l:List Int):Bool:=l.all fun r=>decide (1≤r)&&decide (r≤63)
def nodeM (f:Fm):Int:=if badArity f then 1 else if badForm f then 6 else if badN f then 2 else if inRange f.roles then (if decide f.roles.Nodup then 0 else 5) else 2
def badKind (k op:Int):Bool:=(decide (k=3)&&(decide (op=4)||decide (op=5)))||(decide (k≠0)&&decide (k≠3)&&decide (op=6))
def nodeK (k:Int) (f:Fm):Int:=if nodeM f=0 then (if badKind k f.op then 10 else 0) else nodeM f
theorem Z1d (l:List Int):(nums l).length=l.length:=by simp [nums]
theorem Z55 {l:List Int} {i:Nat} (hi:i<l.length) (h:(decide (1≤l[i])&&decide (l[i]≤63))=false):inRange l=false:=by
 unfold inRange
 rw [List.all_eq_false]
 exact⟨l[i],List.getElem_mem _,by simpa using h⟩
theorem Z7P {l:List Int} {i:Nat} (hi:i<l.length):inRange (l.take (i+1))=(inRange (l.take i)&&(decide (1≤l[i])&&decide (l[i]≤63))):=by
 have e:l.take (i+1)=l.take i ++ [l[i]]:=by rw [List.take_add_one,List.getElem?_eq_getElem hi]; rfl
 rw [e,inRange,List.all_append]
 simp [inRange]
mutual
def insideM (k:Int):Fm→Int
 | .mk op n roles args=>if nodeK k (.mk op n roles args)=0 then insideL k args else nodeK k (.mk op n roles args)
def insideL (k:Int):List Fm→Int
 | []=>0
 | a :: r=>if insideM k a=0 then insideL k r else insideM k a
end
theorem Z15 (k:Int) (f:Fm):insideM k f=if nodeK k f=0 then insideL k f.args else nodeK k f:=by cases f; simp [insideM,Fm.args]
theorem Z38 (k:Int) (l m:List Fm):insideL k (l++m)=if insideL k l=0 then insideL k m else insideL k l:=by
 induction l with
 | nil=>simp [insideL]
 | cons a r ih =>
   simp only [List.cons_append,insideL,ih]
   split
   · rfl
   · rfl
theorem Z4p {k:Int} {l:List Fm} {i:Nat} (hi:i<l.length) (h:insideL k (l.take i)=0):insideL k (l.take (i+1))=insideM k l[i]:=by
 have e:l.take (i+1)=l.take i ++ [l[i]]:=by rw [List.take_add_one,List.getElem?_eq_getElem hi]; rfl
 rw [e,Z38,if_pos h]
 simp only [insideL]
 split
 · rename_i h; rw [h]
 · rfl
theorem Z8W {k:Int} {l:List Fm} {i:Nat} (hi:i<l.length) (h:insideL k (l.take i)=0) (hb:insideM k l[i]≠0):insideL k l=insideM k l[i]:=by
 have h2:=Z38 k (l.take (i+1)) (l.drop (i+1))
 rw [List.take_append_drop,Z4p hi h,if_neg hb] at h2
 exact h2
def typeOfT (f:Fm):Int:=if f.depth>10 ∨ f.size>200 then 0 else if insideM 0 f=0 then (if fitsM f then typeM f.op else 0) else 0
def typeOfE (f:Fm):Int:=if f.depth>10 ∨ f.size>200 then 3 else if insideM 0 f=0 then (if fitsM f then 0 else 10) else insideM 0 f
theorem Z8X:∀ (k x:Nat),popK k x≤k
 | 0,_=>Nat.le_refl _
 | k+1,x=>by have:=Z8X k (x / 2); simp only [popK]; omega
theorem Z3H:∀ k,popK k 0=0
 | 0=>rfl
 | k+1=>by simp only [popK,Nat.zero_div,Z3H k]
def lenW (l:List Nat):Nat:=(l.map (popK 64)).sum
theorem Zcy {l:List Nat} {i:Nat} (hi:i<l.length):lenW (l.take (i+1))=lenW (l.take i)+popK 64 l[i]:=by
 have e:l.take (i+1)=l.take i ++ [l[i]]:=by rw [List.take_add_one,List.getElem?_eq_getElem hi]; rfl
 rw [e,lenW,List.map_append,List.sum_append]
 simp [lenW]
theorem Zfp (l:List Nat):lenW l≤64*l.length:=by
 induction l with
 | nil=>simp [lenW]
 | cons a r ih=>have:=Z8X 64 a; simp only [lenW,List.map_cons,List.sum_cons,List.length_cons] at *; omega
theorem Z7Q {N:Nat} (h:N<18446744073709551616):lenW (digs N)=popK 64 N:=by
 by_cases h0:N=0
 · subst h0; rw [Zr,Z3H]; rfl
 · rw [Z1Z h0,Nat.mod_eq_of_lt h,Nat.div_eq_of_lt h,Zr]; simp [lenW]
theorem Zac (l:List Nat) (hw:Words l) (hlm:l.length≤1099511627776):Spec Tryz.prog 68 [setP l] (· = .val (.int .i64 (lenW l:Nat))):=by
 refine Z2 ok68 (Nat.le_of_ble_eq_true rfl) fun C hC=>?_
 have hll:(words l).length=l.length:=by simp [words]
 refine Zh ?_
 refine Za ?_
 refine Z6 rfl rfl rfl ?_
 (refine go ?_;repeat' (apply B<;>intro hb<;>try cases hb))
 refine ZD hC (fun i=>i≤l.length) (fun i=>l.length-i) 0 (fun i => [(3,.val (.int .i64 (lenW (l.take i):Nat))),(7,.vec (words l) false),(8,.val (.int .i64 l.length)),(9,.val (.int .i64 (i:Int)))]) (fun _=>[]) (Nat.le_refl _) 0 (Nat.zero_le _)
  ⟨⟨rfl,trivial⟩,⟨rfl,ZA _ _⟩,⟨by rw [← hll]; rfl,trivial⟩,⟨rfl,trivial⟩,trivial⟩ trivial ?_
 intro i hi
 have hinc:IntKind.i64.wrap ((i:Int)+1)=((i+1:Nat):Int):=IntWalk.i64_in _ ⟨by omega,by omega⟩
 (refine go ?_;repeat' (apply B<;>intro hb<;>try cases hb))
 · have hil : i < l.length := by simpa using hb
   refine Z5 (Zl (xs:=l) rfl rfl i rfl hil rfl) rfl rfl ?_
   (refine go ?_;repeat' (apply B<;>intro hb<;>try cases hb))
   refine Z7 (Zcw l[i] (hw _ (List.getElem_mem _))) rfl rfl rfl ⟨trivial,trivial⟩ rfl ?_
   have hadd:IntKind.i64.wrap ((lenW (l.take i):Int)+(popK 64 l[i]:Int))=((lenW (l.take (i+1)):Nat):Int):=by
    have:=Zcy hil
    have h2:=Zfp (l.take (i+1))
    have h3:(l.take (i+1)).length≤l.length:=by rw [List.length_take]; omega
    rw [this] at h2 ⊢
    rw [← Int.natCast_add]
    exact IntWalk.i64_in _ ⟨by omega,by omega⟩
   refine Zo rfl rfl rfl hadd ?_
   (refine go ?_;repeat' (apply B<;>intro hb<;>try cases hb))
   exact⟨i+1,by omega,by omega,⟨⟨rfl,trivial⟩,⟨rfl,ZA _ _⟩,⟨rfl,trivial⟩,⟨by show some _=some _; rw [hinc],trivial⟩,trivial⟩,trivial⟩
 · have hil : i = l.length := by simp at hb; omega
   subst hil
   rw [List.take_length]
   exact Z3 rfl trivial rfl
theorem Zcz:∀ (k N j:Nat),j<k→popK k (N ||| 2 ^ j)=popK k N+(if N.testBit j then 0 else 1)
 | 0,_,_,h=>by omega
 | k + 1, N, 0, _ => by
   simp only [popK,Nat.or_div_two,Nat.pow_zero]
   have h1:(N ||| 1) % 2=1:=by
    have:(N ||| 1).testBit 0=true:=by rw [Nat.testBit_or]; simp
    rw [Nat.testBit_zero] at this
    exact of_decide_eq_true this
   rw [h1,show 1 / 2=0 from rfl,Nat.or_zero,Nat.testBit_zero]
   by_cases h:N % 2=1
   · simp [h]
   · have : N % 2 = 0 := by omega
     simp [this]; omega
 | k + 1, N, j + 1, h => by
   have h2:2 ^ (j+1) / 2=2 ^ j:=by rw [Nat.pow_succ]; omega
   have h1:(N ||| 2 ^ (j+1)) % 2=N % 2:=by
    have e:(N ||| 2 ^ (j+1)).testBit 0=N.testBit 0:=by rw [Nat.testBit_or,Nat.testBit_two_pow]; simp
    rw [Nat.testBit_zero,Nat.testBit_zero,decide_eq_decide] at e
    omega
   simp only [popK,Nat.or_div_two,h1,h2]
   rw [Zcz k (N / 2) j (by omega),Nat.testBit_succ]
   omega
theorem Z7R (t:Int):∀ (l:List Int) (acc:Nat),(∀ r∈l,1≤r∧r≤63∧r≤t)→acc<18446744073709551616 →
 ∃ m, l.foldl (fun acc i => if 0 ≤ i ∧ i ≤ t then acc ||| 2 ^ i.toNat else acc) acc = m ∧ m < 18446744073709551616 ∧ (∀ j : Nat, m.testBit j = (acc.testBit j || decide ((j : Int) ∈ l))) ∧ popK 64 m ≤ popK 64 acc + l.length ∧
   (popK 64 m=popK 64 acc+l.length↔l.Nodup∧∀ r∈l,acc.testBit r.toNat=false)
 | [],acc,_,ha=>⟨acc,rfl,ha,by simp,by simp,by simp⟩
 | x :: r, acc, h, ha => by
   obtain⟨h1,h2,h3⟩:=h x (by simp)
   have hx:x.toNat<64:=by omega
   have hacc:acc ||| 2 ^ x.toNat<18446744073709551616:=Nat.or_lt_two_pow (n:=64) ha (Nat.pow_lt_pow_right (by omega) hx)
   obtain⟨m,e,hm,hbit,hle,hiff⟩:=Z7R t r (acc ||| 2 ^ x.toNat) (fun y hy=>h y (by simp [hy])) hacc
   have hor:=Zcz 64 acc x.toNat hx
   refine⟨m,by rw [List.foldl_cons,if_pos ⟨by omega,h3⟩]; exact e,hm,fun j=>?_,?_,?_⟩
   · rw [hbit, Nat.testBit_or, Nat.testBit_two_pow, Bool.or_assoc]
     have:decide ((j:Int)∈x :: r)=(decide (x.toNat=j)||decide ((j:Int)∈r)):=by
      rw [Bool.eq_iff_iff,Bool.or_eq_true,decide_eq_true_eq,decide_eq_true_eq,decide_eq_true_eq,List.mem_cons]
      refine or_congr_left ?_
      omega
     rw [this]
   · rw [List.length_cons]; split at hor<;>omega
   · rw [List.length_cons, List.nodup_cons]
     by_cases hb:acc.testBit x.toNat=true
     · rw [if_pos hb] at hor
       constructor
       · intro he; omega
       · rintro⟨_,hall⟩; rw [hall x (by simp)] at hb; cases hb
     · rw [if_neg hb] at hor
       have:popK 64 m=popK 64 acc+(r.length+1)↔popK 64 m=popK 64 (acc ||| 2 ^ x.toNat)+r.length:=by omega
       rw [this,hiff]
       have hbt:∀ y∈r,(acc ||| 2 ^ x.toNat).testBit y.toNat=false↔acc.testBit y.toNat=false∧y≠x:=fun y hy=>by
        rw [Nat.testBit_or,Nat.testBit_two_pow,Bool.or_eq_false_iff,decide_eq_false_iff_not]
        have:=(h y (by simp [hy])).1
        refine and_congr_right fun _=>⟨fun h he=>h (by rw [he]),fun h he=>h ?_⟩
        omega
       constructor
       · rintro ⟨hn, hall⟩
         refine⟨⟨fun hx=>((hbt x hx).1 (hall x hx)).2 rfl,hn⟩,fun y hy=>?_⟩
         rcases List.mem_cons.1 hy with rfl|hy
         · simpa using hb
         · exact ((hbt y hy).1 (hall y hy)).1
       · rintro ⟨⟨hx, hn⟩, hall⟩
         exact⟨hn,fun y hy=>(hbt y hy).2 ⟨hall y (by simp [hy]),fun he=>hx (he▸hy)⟩⟩
theorem Zee:∀ (l:List Int),(∀ r∈l,r≤4095)→∀ r∈l,r≤topOf l:=by
 have:∀ (l:List Int) (t:Int),(∀ r∈l,r≤4095)→t≤l.foldl (fun t i=>if i≤4095 then (if i>t then i else t) else t) t∧∀ r∈l,r≤l.foldl (fun t i=>if i≤4095 then (if i>t then i else t) else t) t:=by
  intro l
  induction l with
  | nil=>intro t _; simp
  | cons x r ih =>
    intro t h
    have hx:=h x (by simp)
    simp only [List.foldl_cons,if_pos hx]
    obtain⟨u,hu,h3,h4⟩:∃ u,(if x>t then x else t)=u∧t≤u∧x≤u:=⟨_,rfl,by split<;>omega,by split<;>omega⟩
    rw [hu]
    obtain⟨h1,h2⟩:=ih u (fun y hy=>h y (by simp [hy]))
    refine⟨by omega,fun y hy=>?_⟩
    rcases List.mem_cons.1 hy with rfl|hy
    · omega
    · exact h2 y hy
 exact fun l h=>(this l (-1) h).2
theorem Zb9 (l:List Int) (h:inRange l=true):maskTo (topOf l) l<18446744073709551616∧(∀ j:Nat,(maskTo (topOf l) l).testBit j=decide ((j:Int)∈l))∧(popK 64 (maskTo (topOf l) l)=l.length↔l.Nodup)∧popK 64 (maskTo (topOf l) l)≤l.length:=by
 have hall:∀ r∈l,1≤r∧r≤63:=fun r hr=>by
  have:=List.all_eq_true.1 h r hr
  simpa using this
 have hge:=Zee l fun r hr=>by have:=hall r hr; omega
 obtain⟨m,e,h1,h2,h3,h4⟩:=Z7R (topOf l) l 0 (fun r hr=>⟨(hall r hr).1,(hall r hr).2,hge r hr⟩) (by omega)
 have e':maskTo (topOf l) l=m:=e
 rw [e']
 refine⟨h1,fun j=>by rw [h2]; simp,?_,by rw [Z3H] at h3; omega⟩
 rw [Z3H,Nat.zero_add] at h4
 rw [h4]
 simp
set_option maxHeartbeats 1000000 in
theorem ZcA (f:Fm) (hsz:f.args.length≤1099511627776):Spec Tryz.prog 128 [.agg (fC .u8 f)] (· = .val (.int .i64 (nodeM f))):=by
 refine Z2 ok128 (Nat.le_of_ble_eq_true rfl) fun C hC=>?_
 have hal:(f.args.map (cellsK .u8)).length=f.args.length:=by simp
 have hrl:=Z1d f.roles
 refine Zh ?_
 refine Za ?_
 refine Z6 rfl rfl rfl ?_
 refine Z5 rfl rfl rfl ?_
 refine Z13 ?_
 have hpu:=Z7L .u8 f (· < 0)
 refine Z2x hC True 0 [(1,.cp (fC .u8 f)),(3,.val (.int .i64 (operandsM f.op))),(4,.val (.int .i64 (leastM f.op))),(5,.val (.int .i64 (mostM f.op)))] [] (Nat.le_refl _) ?_ fun _=>?_
 · (refine go ?_;repeat' (apply B<;>intro hb<;>try cases hb))
   refine Z7 (Zb8 f.op) rfl rfl rfl ⟨trivial,trivial⟩ rfl ?_
   (refine go ?_;repeat' (apply B<;>intro hb<;>try cases hb))
   exact⟨trivial,⟨⟨rfl,hpu⟩,⟨rfl,trivial⟩,⟨rfl,trivial⟩,⟨rfl,trivial⟩,trivial⟩,trivial⟩
 refine Z2x hC (badArity f=false) 0 [(1,.cp (fC .u8 f)),(4,.val (.int .i64 (leastM f.op))),(5,.val (.int .i64 (mostM f.op)))] [] (Nat.le_refl _) ?_ fun hA=>?_
 · (refine go ?_;repeat' (apply B<;>intro hb<;>try cases hb))
   all_goals first
    | (refine ⟨?_, ⟨⟨rfl, hpu⟩, ⟨rfl, trivial⟩, ⟨rfl, trivial⟩, trivial⟩, trivial⟩
       simp [hal] at *
       simp_all [badArity]
       done)
    | (refine Z3 rfl trivial ?_
       simp [hal] at *
       simp_all [nodeM,badArity,pvOf]
       done)
 refine Z2x hC (badForm f=false) 0 [(1,.cp (fC .u8 f))] [] (Nat.le_refl _) ?_ fun hB=>?_
 · (refine go ?_;repeat' (apply B<;>intro hb<;>try cases hb))
   all_goals first
    | (refine ⟨?_, ⟨⟨rfl, hpu⟩, trivial⟩, trivial⟩
       simp [hrl] at *
       simp_all [badForm]
       done)
    | (refine Z3 rfl trivial ?_
       simp [hrl] at *
       simp_all [nodeM,badForm,pvOf]
       done)
 refine Z2x hC (badN f=false) 0 [(1,.cp (fC .u8 f))] [] (Nat.le_refl _) ?_ fun hN=>?_
 · (refine go ?_;repeat' (apply B<;>intro hb<;>try cases hb))
   all_goals first
    | (refine ⟨?_, ⟨⟨rfl, hpu⟩, trivial⟩, trivial⟩
       simp_all [badN]
       done)
    | (refine Z3 rfl trivial ?_
       simp_all [nodeM,badN,pvOf]
       done)
 refine Z2x hC (inRange f.roles=true∧f.roles.length≤maxVec) 0 [(1,.cp (fC .u8 f))] [] (Nat.le_refl _) ?_ fun hR=>?_
 · (refine go ?_;repeat' (apply B<;>intro hb<;>try cases hb))
   refine Z3B (k:=61) rfl fun hmax=>?_
   rw [hrl] at hmax
   refine ZD hC (fun i=>i≤f.roles.length∧inRange (f.roles.take i)=true) (fun i=>f.roles.length-i) 0 (fun i => [(1,.cp (fC .u8 f)),(61,.vec (nums f.roles) false),(62,.val (.int .i64 f.roles.length)),(63,.val (.int .i64 (i:Int)))]) (fun _=>[]) (Nat.le_refl _) 0 ⟨Nat.zero_le _,rfl⟩
    ⟨⟨rfl,hpu⟩,⟨rfl,Zt _ _⟩,⟨by rw [← hrl]; rfl,trivial⟩,⟨rfl,trivial⟩,trivial⟩ trivial ?_
   rintro i ⟨hi,hin⟩
   have hinc:IntKind.i64.wrap ((i:Int)+1)=((i+1:Nat):Int):=IntWalk.i64_in _ ⟨by omega,by simp only [maxVec] at hmax; omega⟩
   (refine go ?_;repeat' (apply B<;>intro hb<;>try cases hb))
   · have hil : i < f.roles.length := by simpa using hb
     refine Z5 (Zl (xs:=f.roles) rfl rfl i rfl hil rfl) rfl rfl ?_
     (refine go ?_;repeat' (apply B<;>intro hb<;>try cases hb))
     · refine Z3 rfl trivial ?_
       have:=Z55 hil (by simp at hb; simp;omega)
       simp [nodeM,hA,hB,hN,this,pvOf]
     · refine Z3 rfl trivial ?_
       have:=Z55 hil (by simp at hb; simp;omega)
       simp [nodeM,hA,hB,hN,this,pvOf]
     · refine ⟨i + 1, ⟨by omega, ?_⟩, by omega, ⟨⟨rfl, hpu⟩, ⟨rfl, Zt _ _⟩, ⟨rfl, trivial⟩, ⟨by show some _ = some _; rw [hinc], trivial⟩, trivial⟩, trivial⟩
       rename_i h1
       simp at hb h1
       rw [Z7P hil,hin]
       simp
       omega
   · have hil : i = f.roles.length := by simp at hb; omega
     subst hil
     rw [List.take_length] at hin
     exact⟨⟨hin,hmax⟩,⟨⟨rfl,hpu⟩,trivial⟩,trivial⟩
 obtain⟨hR,hmax⟩:=hR
 obtain⟨hm1,hm2,hm3,hm4⟩:=Zb9 f.roles hR
 have hle:(digs (maskTo (topOf f.roles) f.roles)).length≤1:=by
  by_cases h0:maskTo (topOf f.roles) f.roles=0
  · rw [h0,Zr]; simp
  · rw [Z1Z h0,Nat.div_eq_of_lt hm1,Zr]; simp
 (refine go ?_;repeat' (apply B<;>intro hb<;>try cases hb))
 refine Zq (Z6X f.roles false) rfl rfl rfl ⟨Z9 _,trivial⟩ ?_
 refine Zq (Zac _ (Z1v _) (by omega)) rfl rfl rfl ⟨Z2g _,trivial⟩ ?_
 rw [Z7Q hm1]
 generalize popK 64 (maskTo (topOf f.roles) f.roles)=z at *
 (refine go ?_;repeat' (apply B<;>intro hb<;>try cases hb))
 · refine Z3 rfl trivial ?_
   have hne:¬ f.roles.Nodup:=fun h=>by
    simp [hrl,hm3.2 h] at hb
   simp [nodeM,hA,hB,hN,hR,hne,pvOf]
 · refine Z3 rfl trivial ?_
   have hnd:f.roles.Nodup:=hm3.1 (by simp [hrl] at hb;omega)
   simp [nodeM,hA,hB,hN,hR,hnd,pvOf]
theorem Z8Y (k:Int):∀ (d:Nat) (f:Fm),f.depth≤d→f.size≤1099511627776→Spec Tryz.prog 97 [.agg (fC .u8 f),.val (.int .u8 k)] (· = .val (.int .i64 (insideM k f))):=by
 intro d
 induction d with
 | zero=>intro f hf; rw [Fm.depth_eq] at hf; omega
 | succ d ih =>
   intro f hf hsz
   have hll:(f.args.map (cellsK .u8)).length=f.args.length:=by simp
   have hfd:=f.depth_eq
   have hfs:=f.size_eq
   have hlm:=Z26 f.args
   have hpu:=Z7L .u8 f (· < 0)
   refine Z2 ok97 (Nat.le_of_ble_eq_true rfl) fun C hC=>?_
   refine Zh ?_
   refine Za ?_
   refine Z6 rfl rfl rfl ?_
   refine Z5 rfl rfl rfl ?_
   refine Z13 ?_
   refine Z2x hC (nodeM f=0) 0 [(1,.val (.int .u8 k)),(2,.cp (fC .u8 f))] [] (Nat.le_refl _) ?_ fun hz=>?_
   · (refine go ?_;repeat' (apply B<;>intro hb<;>try cases hb))
     refine Z7 (ZcA f (by omega)) rfl rfl rfl ⟨Zm _ _,trivial⟩ rfl ?_
     (refine go ?_;repeat' (apply B<;>intro hb<;>try cases hb))
     · refine Z3 rfl trivial ?_
       have hne:nodeM f≠0:=by simpa using hb
       rw [Z15,nodeK,if_neg hne,if_neg hne]
     · exact⟨by simpa using hb,⟨⟨rfl,trivial⟩,⟨rfl,hpu⟩,trivial⟩,trivial⟩
   refine Z2x hC True 0 [(1,.val (.int .u8 k)),(2,.cp (fC .u8 f)),(6,.val (.bool (decide (f.op=4)||decide (f.op=5))))] [] (Nat.le_refl _) ?_ fun _=>?_
   · (refine go ?_;repeat' (apply B<;>intro hb<;>try cases hb))
     all_goals
      simp at hb
      refine⟨trivial,⟨⟨rfl,trivial⟩,⟨rfl,hpu⟩,⟨?_,trivial⟩,trivial⟩,trivial⟩
      show some (PV.val (Value.bool _))=_
      simp_all
   refine Z2x hC (badKind k f.op=false) 0 [(1,.val (.int .u8 k)),(2,.cp (fC .u8 f))] [] (Nat.le_refl _) ?_ fun hk=>?_
   · (refine go ?_;repeat' (apply B<;>intro hb<;>try cases hb))
     all_goals first
      | (refine ⟨?_, ⟨⟨rfl, trivial⟩, ⟨rfl, hpu⟩, trivial⟩, trivial⟩
         simp at *
         simp_all [badKind]
         done)
      | (refine Z3 rfl trivial ?_
         simp at *
         simp_all [Z15,nodeK,badKind,pvOf]
         done)
   have hz':nodeK k f=0:=by rw [nodeK,if_pos hz,hk]; rfl
   (refine go ?_;repeat' (apply B<;>intro hb<;>try cases hb))
   refine ZD hC (fun i=>i≤f.args.length∧insideL k (f.args.take i)=0) (fun i=>f.args.length-i) 0 (fun i => [(1,.val (.int .u8 k)),(42,.vec (f.args.map (cellsK .u8)) false),(43,.val (.int .i64 f.args.length)),(44,.val (.int .i64 (i:Int)))]) (fun _=>[]) (Nat.le_refl _) 0 ⟨Nat.zero_le _,rfl⟩
    ⟨⟨rfl,trivial⟩,⟨rfl,Z1E _ _ _⟩,⟨by rw [← hll]; rfl,trivial⟩,⟨rfl,trivial⟩,trivial⟩ trivial ?_
   rintro i ⟨hi,hin⟩
   have hinc:IntKind.i64.wrap ((i:Int)+1)=((i+1:Nat):Int):=IntWalk.i64_in _ ⟨by omega,by omega⟩
   (refine go ?_;repeat' (apply B<;>intro hb<;>try cases hb))
   · have hil : i < f.args.length := by simpa using hb
     refine Z5 (Zl (xs:=f.args) rfl rfl i rfl hil (Zy _ _)) rfl rfl ?_
     rw [ZY]
     (refine go ?_;repeat' (apply B<;>intro hb<;>try cases hb))
     have hdl:=Z1O hil
     have hsl:=Z53 hil
     refine Z7 (ih f.args[i] (by omega) (by omega)) rfl rfl rfl ⟨Zm _ _,trivial,trivial⟩ rfl ?_
     (refine go ?_;repeat' (apply B<;>intro hb<;>try cases hb))
     · refine Z3 rfl trivial ?_
       have hne:insideM k f.args[i]≠0:=by simpa using hb
       rw [Z15 k f,if_pos hz',Z8W hil hin hne]
     · refine ⟨i + 1, ⟨by omega, ?_⟩, by omega, ⟨⟨rfl, trivial⟩, ⟨rfl, Z1E _ _ _⟩, ⟨rfl, trivial⟩, ⟨by show some _ = some _; rw [hinc], trivial⟩, trivial⟩, trivial⟩
       rw [Z4p hil hin]
       simpa using hb
   · have hil : i = f.args.length := by simp at hb; omega
     subst hil
     rw [List.take_length] at hin
     exact Z3 rfl trivial (by rw [Z15,if_pos hz',hin]; rfl)
def lookM (k:Int) (f:Fm):Int:=if f.depth>10 ∨ f.size>200 then 3 else insideM k f
theorem Z7S (k:Int) (f:Fm) (hd:f.depth≤1000) (hsz:f.size≤1099511627776):Spec Tryz.prog 64 [.agg (fC .u8 f),.val (.int .u8 k)] (· = .val (.int .i64 (lookM k f))):=by
 refine Z2 ok64 (Nat.le_of_ble_eq_true rfl) fun C hC=>?_
 refine Zh ?_
 refine Za ?_
 refine Z6 rfl rfl rfl ?_
 (refine go ?_;repeat' (apply B<;>intro hb<;>try cases hb))
 refine Z7 (Z7M f.depth f (Nat.le_refl _) hd hsz) rfl rfl rfl ⟨Zm _ _,trivial⟩ rfl ?_
 have main:¬ f.depth>10→¬ f.size>200→lookM k f=insideM k f:=fun h1 h2=>by simp [lookM,h1,h2]
 (refine go ?_;repeat' (apply B<;>intro hb<;>try cases hb))
 · exact Z3 rfl trivial (by simp at hb; simp [lookM,show f.depth>10 by omega,pvOf])
 · exact Z3 rfl trivial (by simp at hb; simp [lookM,show f.size>200 by omega,pvOf])
 · rename_i h1
   refine Z7 (Z8Y k f.depth f (Nat.le_refl _) hsz) rfl rfl rfl ⟨Zm _ _,trivial,trivial⟩ rfl ?_
   (refine go ?_;repeat' (apply B<;>intro hb<;>try cases hb))
   exact Z3 rfl trivial (by simp at hb h1; rw [main (by omega) (by omega)])
theorem Z8Z (f:Fm) (hd:f.depth≤1000) (hsz:f.size≤1099511627776):Spec Tryz.prog 78 [.agg (fC .u8 f)] (· = .tup [.val (.int .u8 (typeOfT f)),.val (.int .i64 (typeOfE f))]):=by
 refine Z2 ok78 (Nat.le_of_ble_eq_true rfl) fun C hC=>?_
 refine Zh ?_
 refine Za ?_
 refine Z6 rfl rfl rfl ?_
 (refine go ?_;repeat' (apply B<;>intro hb<;>try cases hb))
 refine Z7 (Z7S 0 f hd hsz) rfl rfl rfl ⟨Zm _ _,trivial,trivial⟩ rfl ?_
 have h0:lookM 0 f≠0→typeOfT f=0∧typeOfE f=lookM 0 f:=fun h=>by
  unfold typeOfT typeOfE
  unfold lookM at h ⊢
  split at h
  · rename_i h1; simp [h1]
  · rename_i h1; simp only [if_neg h1,if_neg h]; exact⟨trivial,trivial⟩
 have h1:lookM 0 f=0→typeOfT f=(if fitsM f then typeM f.op else 0)∧typeOfE f=if fitsM f then 0 else 10:=fun h=>by
  unfold typeOfT typeOfE
  unfold lookM at h
  split at h
  · cases h
  · rename_i h1; simp only [if_neg h1,if_pos h]; exact⟨trivial,trivial⟩
 (refine go ?_;repeat' (apply B<;>intro hb<;>try cases hb))
 · obtain ⟨e1, e2⟩ := h0 (by simpa using hb)
   exact Z3 rfl ⟨trivial,trivial,trivial⟩ (by rw [e1,e2]; rfl)
 obtain⟨e1,e2⟩:=h1 (by simpa using hb)
 refine Z7 (Z7O f.depth f (Nat.le_refl _)) rfl rfl rfl ⟨Zm _ _,trivial⟩ rfl ?_
 (refine go ?_;repeat' (apply B<;>intro hb<;>try cases hb))
 · have h4 : fitsM f = false := by simpa using hb
   exact Z3 rfl ⟨trivial,trivial,trivial⟩ (by rw [e1,e2,h4]; rfl)
 have h4:fitsM f=true:=by simpa using hb
 refine Z7 (Z3f f.op) rfl rfl rfl ⟨trivial,trivial⟩ rfl ?_
 (refine go ?_;repeat' (apply B<;>intro hb<;>try cases hb))
 exact Z3 rfl ⟨trivial,trivial,trivial⟩ (by rw [e1,e2,h4]; rfl)
def b2i (b:Bool):Int:=if b then 1 else 0
theorem Z6f (b:Bool):b2i b=0 ∨ b2i b=1:=by cases b<;>simp [b2i]
def cntM (N:Nat) (l:List Int):Int:=(l.map fun r=>b2i (N.testBit r.toNat)).sum
def memM (ms:List Int) (r:Int):Int:=if r≥ms.length then 0 else if ms.getD r.toNat 0<0 then 0 else if ms.getD r.toNat 0>256 then 0 else ms.getD r.toNat 0
def binM (op a b:Int):Int :=
 if op=8 then a*b else if op=9 then (if b>a then b else a) else if op=10 then (if b>1-a then b else 1-a) else if op=11 then b2i (decide (a≤b)) else if op=12 then b2i (decide (a<b)) else
 if op=13 then b2i (decide (a≥b)) else if op=14 then b2i (decide (a>b)) else if op=15 then b2i (a == b) else a+b
def opM (N:Nat) (ms:List Int) (op n:Int) (roles:List Int) (vs:List Int):Int :=
 if op=1 then n else if op=2 then 1 else if op=3 then 0 else if op=4 ∨ op=5 then cntM N roles else if op=6 then memM ms (roles.getD 0 0) else if op=7 then 1-vs.getD 0 0 else binM op (vs.getD 0 0) (vs.getD 1 0)
mutual
def evM (N:Nat) (ms:List Int):Fm→Int
 | .mk op n roles args=>opM N ms op n roles (evL N ms args)
def evL (N:Nat) (ms:List Int):List Fm→List Int
 | [] => []
 | a :: r=>evM N ms a :: evL N ms r
end
def Wf (f:Fm):Prop:=insideM 0 f=0∧fitsM f=true
theorem Z2q {k:Int}:∀ {l:List Fm},insideL k l=0→∀ a∈l,insideM k a=0
 | [],_,a,ha=>by cases ha
 | x :: r, h, a, ha => by
   simp only [insideL] at h
   split at h
   · rename_i hx
     rcases List.mem_cons.1 ha with rfl|ha
     · exact hx
     · exact Z2q h a ha
   · rename_i hx; exact absurd h hx
theorem Z56 {w:Int}:∀ {l:List Fm},fitsL w l=true→∀ a∈l,typeM a.op=w∧fitsM a=true
 | [],_,a,ha=>by cases ha
 | x :: r, h, a, ha => by
   simp only [fitsL,Bool.and_eq_true,decide_eq_true_eq] at h
   rcases List.mem_cons.1 ha with rfl|ha
   · exact⟨h.1.1,h.1.2⟩
   · exact Z56 h.2 a ha
theorem Z6g (f:Fm):nodeK 0 f=nodeM f:=by
 have:badKind 0 f.op=false:=by simp [badKind]
 unfold nodeK
 split
 · rename_i h; rw [this,h]; rfl
 · rfl
theorem Z7T {f:Fm} (h:nodeM f=0):badArity f=false∧badForm f=false∧badN f=false∧inRange f.roles=true∧f.roles.Nodup:=by
 unfold nodeM at h
 split at h
 · cases h
 split at h
 · cases h
 split at h
 · cases h
 split at h
 · split at h
   · rename_i h1 h2 h3 h4 h5
     exact⟨by simpa using h1,by simpa using h2,by simpa using h3,h4,by simpa using h5⟩
   · cases h
 · cases h
theorem Wf.node {f:Fm} (h:Wf f):nodeM f=0:=by
 have:=h.1
 rw [Z15] at this
 split at this
 · rename_i h0; rwa [Z6g] at h0
 · rename_i h0; exact absurd this h0
theorem Wf.arg {f:Fm} (h:Wf f):∀ a∈f.args,Wf a∧typeM a.op=wantM f.op:=fun a ha=>by
 obtain⟨h1,h2⟩:=h
 rw [Z15] at h1
 rw [Z4J] at h2
 split at h1
 · exact⟨⟨Z2q h1 a ha,(Z56 h2 a ha).2⟩,(Z56 h2 a ha).1⟩
 · rename_i h0; exact absurd h1 h0
structure WfI (op n:Int) (roles:List Int) (args:List Fm):Prop where
 lo:1≤op
 hi:op≤16
 ar:(args.length:Int)=operandsM op
 n0:op≠1→n=0
 least:leastM op≤(roles.length:Int)
 most:(roles.length:Int)≤mostM op
 nlo:0≤n
 nhi:n≤999999
 rng:∀ r∈roles,1≤r∧r≤63
 nd:roles.Nodup
 arg:∀ a∈args,Wf a∧typeM a.op=wantM op
theorem Wf.inv' {f:Fm} (h:Wf f):WfI f.op f.n f.roles f.args:=by
 obtain⟨h1,h2,h3,h4,h5⟩:=Z7T h.node
 have a1:1≤f.op∧f.op≤16∧(f.args.length:Int)=operandsM f.op:=by simp [badArity] at h1; omega
 have a2:(f.op≠1→f.n=0)∧leastM f.op≤(f.roles.length:Int)∧(f.roles.length:Int)≤mostM f.op:=by simp [badForm] at h2; omega
 have a3:0≤f.n∧f.n≤999999:=by simp [badN] at h3; omega
 refine⟨a1.1,a1.2.1,a1.2.2,a2.1,a2.2.1,a2.2.2,a3.1,a3.2,fun r hr=>?_,h5,h.arg⟩
 have:=List.all_eq_true.1 h4 r hr
 simpa using this
theorem Wf.inv {op n:Int} {roles:List Int} {args:List Fm} (h:Wf (.mk op n roles args)):WfI op n roles args:=h.inv'
theorem WfI.two {op n:Int} {roles:List Int} {args:List Fm} (h:WfI op n roles args) (hop:8≤op):∃ x y,args = [x,y]:=by
 have:=h.ar
 rw [operandsM,if_pos hop] at this
 match args,this with
 | [x,y],_=>exact⟨x,y,rfl⟩
 | [],h=>simp at h
 | [_],h=>simp at h
 | _ :: _ :: _ :: _,h=>simp at h; omega
theorem WfI.one {n:Int} {roles:List Int} {args:List Fm} (h:WfI 7 n roles args):∃ x,args = [x]:=by
 have:=h.ar
 simp only [operandsM] at this
 match args,this with
 | [x],_=>exact⟨x,rfl⟩
 | [],h=>simp at h
 | _ :: _ :: _,h=>simp at h; omega
theorem WfI.role {op n:Int} {roles:List Int} {args:List Fm} (h:WfI op n roles args) (hop:op=4 ∨ op=6):∃ r,roles = [r]:=by
 have h1:=h.least
 have h2:=h.most
 rw [leastM,if_pos hop] at h1
 rw [mostM,if_pos hop] at h2
 match roles,h1,h2 with
 | [x],_,_=>exact⟨x,rfl⟩
 | [],h,_=>simp at h
 | _ :: _ :: _,_,h=>simp at h; omega
theorem Z90 (N:Nat) (l m:List Int):cntM N (l++m)=cntM N l+cntM N m:=by simp [cntM,List.map_append,List.sum_append]
theorem Z7U {N:Nat} {l:List Int} {i:Nat} (hi:i<l.length):cntM N (l.take (i+1))=cntM N (l.take i)+b2i (N.testBit l[i].toNat):=by
 have e:l.take (i+1)=l.take i ++ [l[i]]:=by rw [List.take_add_one,List.getElem?_eq_getElem hi]; rfl
 rw [e,Z90]
 simp [cntM]
theorem Z43 (N:Nat) (l:List Int):0≤cntM N l∧cntM N l≤l.length:=by
 induction l with
 | nil=>simp [cntM]
 | cons a r ih =>
   have h:=Z6f (N.testBit a.toNat)
   simp only [cntM,List.map_cons,List.sum_cons,List.length_cons] at *
   omega
theorem Zba (ms:List Int) (r:Int):0≤memM ms r∧memM ms r≤256:=by
 unfold memM
 repeat' split
 all_goals omega
theorem Fm.size_pos (f:Fm):1≤f.size:=by rw [Fm.size_eq]; omega
theorem Z6Z (op n:Int) (roles:List Int) (x:Fm):(Fm.mk op n roles [x]).size=x.size+1:=by simp [Fm.size,sizeL]
theorem Z70 (op n:Int) (roles:List Int) (x y:Fm):(Fm.mk op n roles [x,y]).size=x.size+y.size+1:=by simp [Fm.size,sizeL]
theorem Z57 (op n:Int) (roles:List Int) (x:Fm):(Fm.mk op n roles [x]).depth=x.depth+1:=by simp [Fm.depth,depthL]
theorem Z58 (op n:Int) (roles:List Int) (x y:Fm):(Fm.mk op n roles [x,y]).depth=max x.depth y.depth+1:=by simp [Fm.depth,depthL]
theorem ops16 {op:Int} (h1:1≤op) (h2:op≤16):op=1 ∨ op=2 ∨ op=3 ∨ op=4 ∨ op=5 ∨ op=6 ∨ op=7 ∨ op=8 ∨ op=9 ∨ op=10 ∨ op=11 ∨ op=12 ∨ op=13 ∨ op=14 ∨ op=15 ∨ op=16:=by omega
theorem Z91 (N:Nat) (ms:List Int) (n:Int) (roles:List Int) (x:Fm):evM N ms (.mk 7 n roles [x])=1-evM N ms x:=by simp [evM,evL,opM]
theorem Z92 (N:Nat) (ms:List Int) {op:Int} (n:Int) (roles:List Int) (x y:Fm) (hop:8≤op):evM N ms (.mk op n roles [x,y])=binM op (evM N ms x) (evM N ms y):=by
 simp only [evM,evL,opM]
 rw [if_neg (by omega),if_neg (by omega),if_neg (by omega),if_neg (by omega),if_neg (by omega),if_neg (by omega)]
 rfl
theorem max01 {a b:Int} (ha:a=0 ∨ a=1) (hb:b=0 ∨ b=1):(if b>a then b else a)=0 ∨ (if b>a then b else a)=1:=by split<;>assumption
theorem Z2h (N:Nat) (ms:List Int):∀ (d:Nat) (f:Fm),f.depth≤d→Wf f→(0≤evM N ms f∧evM N ms f≤999999*f.size)∧(typeM f.op=1→evM N ms f=0 ∨ evM N ms f=1):=by
 intro d
 induction d with
 | zero=>intro f hf; rw [Fm.depth_eq] at hf; omega
 | succ d ih =>
   rintro⟨op,n,roles,args⟩ hf hw
   have w:=hw.inv
   have hsz:=(Fm.mk op n roles args).size_pos
   have hc:=Z43 N roles
   have hm:=Zba ms (roles.getD 0 0)
   have hmost:=w.most
   have hr8:(roles.length:Int)≤8:=by
    have:mostM op≤8:=by
     unfold mostM
     split
     · omega
     · split<;>omega
    omega
   by_cases h8:8≤op
   · obtain ⟨x, y, rfl⟩ := w.two h8
     rw [Z58] at hf
     rw [Z70] at *
     rw [Z92 _ _ _ _ _ _ h8]
     obtain⟨wx,tx⟩:=w.arg x (by simp)
     obtain⟨wy,ty⟩:=w.arg y (by simp)
     obtain⟨⟨x1,x2⟩,x3⟩:=ih x (by omega) wx
     obtain⟨⟨y1,y2⟩,y3⟩:=ih y (by omega) wy
     have hx:=x.size_pos
     have hy:=y.size_pos
     have close:∀ z:Int,(z=0 ∨ z=1)→(0≤z∧z≤999999*((x.size+y.size+1:Nat):Int))∧(typeM op=1→z=0 ∨ z=1):=fun z hz=>⟨⟨by omega,by omega⟩,fun _=>hz⟩
     show (0≤binM op _ _∧binM op _ _≤999999*((x.size+y.size+1:Nat):Int))∧(typeM op=1→binM op _ _=0 ∨ binM op _ _=1)
     unfold binM
     have hwt:op<11→typeM x.op=1∧typeM y.op=1:=fun h=>by
      rw [wantM,if_neg (by omega)] at tx ty; exact⟨tx,ty⟩
     split
     · obtain ⟨t1, t2⟩ := hwt (by omega)
       refine close _ ?_
       rcases x3 t1 with h|h<;>rcases y3 t2 with h' | h'<;>rw [h,h']<;>simp
     split
     · obtain ⟨t1, t2⟩ := hwt (by omega)
       exact close _ (max01 (x3 t1) (y3 t2))
     split
     · obtain ⟨t1, t2⟩ := hwt (by omega)
       refine close _ (max01 ?_ (y3 t2))
       rcases x3 t1 with h|h<;>rw [h]<;>simp
     split
     · exact close _ (Z6f _)
     split
     · exact close _ (Z6f _)
     split
     · exact close _ (Z6f _)
     split
     · exact close _ (Z6f _)
     split
     · exact close _ (Z6f _)
     · refine ⟨⟨by omega, by omega⟩, fun h => ?_⟩
       have hi:=w.hi
       have:op=16:=by omega
       subst this
       simp [typeM] at h
   · rcases ops16 w.lo w.hi with rfl | rfl | rfl | rfl | rfl | rfl | rfl | h
     · refine ⟨?_, fun h => by simp [typeM, Fm.op] at h⟩
       have e:evM N ms (.mk 1 n roles args)=n:=by simp [evM,opM]
       rw [e]; exact⟨w.nlo,by have:=w.nhi; omega⟩
     · have e : evM N ms (.mk 2 n roles args) = 1 := by simp [evM, opM]
       rw [e]; exact⟨⟨by omega,by omega⟩,fun _=>.inr rfl⟩
     · have e : evM N ms (.mk 3 n roles args) = 0 := by simp [evM, opM]
       rw [e]; exact⟨⟨by omega,by omega⟩,fun _=>.inl rfl⟩
     · have e : evM N ms (.mk 4 n roles args) = cntM N roles := by simp [evM, opM]
       rw [e]
       have:(roles.length:Int)≤1:=by simpa [mostM] using hmost
       exact⟨⟨by omega,by omega⟩,fun _=>by omega⟩
     · have e : evM N ms (.mk 5 n roles args) = cntM N roles := by simp [evM, opM]
       rw [e]
       exact⟨⟨by omega,by omega⟩,fun h=>by simp [typeM,Fm.op] at h⟩
     · have e : evM N ms (.mk 6 n roles args) = memM ms (roles.getD 0 0) := by simp [evM, opM]
       rw [e]
       exact⟨⟨by omega,by omega⟩,fun h=>by simp [typeM,Fm.op] at h⟩
     · obtain ⟨x, rfl⟩ := w.one
       rw [Z57] at hf
       rw [Z6Z] at *
       rw [Z91]
       obtain⟨wx,tx⟩:=w.arg x (by simp)
       obtain⟨⟨x1,x2⟩,x3⟩:=ih x (by omega) wx
       have:=x3 (by simpa [wantM] using tx)
       exact⟨⟨by omega,by omega⟩,fun _=>by omega⟩
     · omega
theorem Z59 (N:Nat) (r:Int) (h1:0≤r) (h2:r≤4095):Spec Tryz.prog 42 [.agg [.vec (words (digs N)) false],.val (.int .i64 r)] (· = .val (.bool (N.testBit r.toNat))):=by
 have h:=Za8 (digs N) (Z1v N) r
 rw [decide_eq_true (⟨h1,h2⟩:0≤r∧r≤4095),Bool.true_and,← Z1S (Z1v N),Z4I] at h
 exact h
theorem Zbb (ws:List (List PV)) (hws:pureLL ws) (ms:List Int) (fl:Bool) (r:Int) (hr:0≤r):Spec Tryz.prog 108 [.agg [.vec ws false,.vec (nums ms) fl],.val (.int .i64 r)] (· = .val (.int .i64 (memM ms r))):=by
 refine Z2 ok108 (Nat.le_of_ble_eq_true rfl) fun C hC=>?_
 have hl:=Z1d ms
 obtain⟨j,rfl⟩:∃ j:Nat,r=j:=⟨r.toNat,by omega⟩
 refine Zh ?_
 refine Za ?_
 refine Z6 rfl rfl rfl ?_
 (refine go ?_;repeat' (apply B<;>intro hb<;>try cases hb))
 · have hj : ms.length ≤ j := by simp [hl] at hb; omega
   exact Z3 rfl trivial (by simp [memM,pvOf]; intro h;omega)
 have hj:j<ms.length:=by simp [hl] at hb; omega
 have hg:ms.getD j 0=ms[j]:=by simp [List.getD_eq_getElem?_getD,hj]
 have hn:¬ ((j:Int)≥(ms.length:Int)):=by omega
 refine Z5 (Zl (xs:=ms) rfl rfl j rfl hj rfl) rfl rfl ?_
 (refine go ?_;repeat' (apply B<;>intro hb<;>try cases hb))
 · exact Z3 rfl trivial (by simp at hb; simp [memM,pvOf,hb,List.getElem?_eq_getElem hj])
 have h1:¬ ms[j]<0:=by simpa using hb
 refine Z5 (Zl (xs:=ms) rfl rfl j rfl hj rfl) rfl rfl ?_
 (refine go ?_;repeat' (apply B<;>intro hb<;>try cases hb))
 · have h2 : ms[j] > 256 := by simpa using hb
   refine Z3 rfl trivial ?_
   unfold memM
   rw [if_neg hn,Int.toNat_natCast,hg,if_neg h1,if_pos h2]
   rfl
 · have h2 : ¬ ms[j] > 256 := by simpa using hb
   refine Z5 (Zl (xs:=ms) rfl rfl j rfl hj rfl) rfl rfl ?_
   (refine go ?_;repeat' (apply B<;>intro hb<;>try cases hb))
   refine Z3 rfl trivial ?_
   unfold memM
   rw [if_neg hn,Int.toNat_natCast,hg,if_neg h1,if_neg h2]
theorem Zad (b:Bool):Spec Tryz.prog 107 [.val (.bool b)] (· = .val (.int .i64 (b2i b))):=Zcx b
set_option maxHeartbeats 4000000 in
theorem Zbc (N:Nat) (ms:List Int) (fl:Bool):∀ (d:Nat) (f:Fm),f.depth≤d→Wf f→f.size≤1000→Spec Tryz.prog 79 [.agg [.vec (words (digs N)) false,.vec (nums ms) fl],.agg (fC .u8 f)] (· = .val (.int .i64 (evM N ms f))):=by
 intro d
 induction d with
 | zero=>intro f hf; rw [Fm.depth_eq] at hf; omega
 | succ d ih =>
   rintro⟨op,n,roles,args⟩ hf hw hsz
   have w:=hw.inv
   have hwp:pureL [.vec (words (digs N)) false,.vec (nums ms) fl]:=⟨Zd _,Z9 _,trivial⟩
   have hwi:innL (· < 0) [.vec (words (digs N)) false,.vec (nums ms) fl]:=ZJ (fun _ h=>h.elim) _ hwp
   have hpu:=Z7L .u8 (.mk op n roles args) (· < 0)
   refine Z2 ok79 (Nat.le_of_ble_eq_true rfl) fun C hC=>?_
   refine Zh ?_
   refine Za ?_
   refine Z6 rfl rfl rfl ?_
   refine Z6 rfl rfl rfl ?_
   refine Z5 rfl rfl rfl ?_
   refine Z13 ?_
   by_cases h8:8≤op
   · obtain ⟨x, y, rfl⟩ := w.two h8
     obtain⟨wx,tx⟩:=w.arg x (by simp)
     obtain⟨wy,ty⟩:=w.arg y (by simp)
     rw [Z58] at hf
     rw [Z70] at hsz
     obtain⟨⟨x1,x2⟩,x3⟩:=Z2h N ms d x (by omega) wx
     obtain⟨⟨y1,y2⟩,y3⟩:=Z2h N ms d y (by omega) wy
     have ihx:=ih x (by omega) wx (by omega)
     have ihy:=ih y (by omega) wy (by omega)
     rw [Z92 _ _ _ _ _ _ h8]
     have hwt:op<11→typeM x.op=1∧typeM y.op=1:=fun h=>by
      rw [wantM,if_neg (by omega)] at tx ty; exact⟨tx,ty⟩
     refine Z2x hC True 0 [(2,.cp [.vec (words (digs N)) false,.vec (nums ms) fl]),(3,.cp (fC .u8 (.mk op n roles [x,y])))] [] (Nat.le_refl _) ?_ fun _=>?_
     · rcases ops16 w.lo w.hi with rfl | rfl | rfl | rfl | rfl | rfl | rfl | rfl | rfl | rfl | rfl | rfl | rfl | rfl | rfl | rfl
       all_goals first|(exfalso;omega)|skip
       all_goals
        (refine go ?_;repeat' (apply B<;>intro hb<;>try cases hb))
        exact⟨trivial,⟨⟨rfl,hwi⟩,⟨rfl,hpu⟩,trivial⟩,trivial⟩
     refine Z2x hC True 0 [(3,.cp (fC .u8 (.mk op n roles [x,y]))),(8,.val (.int .i64 (evM N ms x))),(9,.val (.int .i64 (evM N ms y)))] [] (Nat.le_refl _) ?_ fun _=>?_
     · (refine go ?_;repeat' (apply B<;>intro hb<;>try cases hb))
       refine Zp (Zl (xs := [x,y]) rfl rfl 0 rfl (Nat.zero_lt_succ _) (Zy _ _)) rfl rfl ?_
       rw [show [x,y][0]=x from rfl,ZY .u8 x]
       (refine go ?_;repeat' (apply B<;>intro hb<;>try cases hb))
       refine Zq ihx rfl rfl rfl ⟨hwp,Zm _ _,trivial⟩ ?_
       (refine go ?_;repeat' (apply B<;>intro hb<;>try cases hb))
       refine Zp (Zl (xs := [x,y]) rfl rfl 1 rfl (Nat.lt_succ_self _) (Zy _ _)) rfl rfl ?_
       rw [show [x,y][1]=y from rfl,ZY .u8 y]
       (refine go ?_;repeat' (apply B<;>intro hb<;>try cases hb))
       refine Zq ihy rfl rfl rfl ⟨hwp,Zm _ _,trivial⟩ ?_
       (refine go ?_;repeat' (apply B<;>intro hb<;>try cases hb))
       exact⟨trivial,⟨⟨rfl,hpu⟩,⟨rfl,trivial⟩,⟨rfl,trivial⟩,trivial⟩,trivial⟩
     generalize evM N ms x=a at *
     generalize evM N ms y=b at *
     rcases ops16 w.lo w.hi with rfl|rfl|rfl|rfl|rfl|rfl|rfl|rfl|rfl|rfl|rfl|rfl|rfl|rfl|rfl|rfl
     all_goals first|(exfalso;omega)|skip
     · obtain ⟨t1, t2⟩ := hwt (by omega)
       (refine go ?_;repeat' (apply B<;>intro hb<;>try cases hb))
       refine Z3 rfl trivial ?_
       have:IntKind.i64.wrap (a*b)=a*b:=by rcases x3 t1 with h|h<;>rcases y3 t2 with h' | h'<;>rw [h,h']<;>rfl
       rw [this]; rfl
     · (refine go ?_;repeat' (apply B<;>intro hb<;>try cases hb))
       exact Z3 rfl trivial rfl
     · obtain ⟨t1, t2⟩ := hwt (by omega)
       have:IntKind.i64.wrap (1-a)=1-a:=by rcases x3 t1 with h|h<;>rw [h]<;>rfl
       (refine go ?_;repeat' (apply B<;>intro hb<;>try cases hb))
       refine Z3 rfl trivial ?_
       rw [this]; rfl
     iterate 5
      · (refine go ?_;repeat' (apply B<;>intro hb<;>try cases hb))
        all_goals
         refine Z7 (Zad _) rfl rfl rfl ⟨trivial,trivial⟩ rfl ?_
         (refine go ?_;repeat' (apply B<;>intro hb<;>try cases hb))
         exact Z3 rfl trivial (congrArg (fun z=>PV.val (Value.int .i64 (b2i z))) hb.symm)
     · have : IntKind.i64.wrap (a + b) = a + b := IntWalk.i64_in _ ⟨by omega, by omega⟩
       (refine go ?_;repeat' (apply B<;>intro hb<;>try cases hb))
       refine Z3 rfl trivial ?_
       rw [this]; rfl
   rcases ops16 w.lo w.hi with rfl|rfl|rfl|rfl|rfl|rfl|rfl|h
   · (refine go ?_;repeat' (apply B<;>intro hb<;>try cases hb))
     exact Z3 rfl trivial rfl
   · (refine go ?_;repeat' (apply B<;>intro hb<;>try cases hb))
     exact Z3 rfl trivial rfl
   · (refine go ?_;repeat' (apply B<;>intro hb<;>try cases hb))
     exact Z3 rfl trivial rfl
   iterate 2
    · have hl := Z1d roles
      have hmost:=w.most
      have hm8:roles.length≤8:=by
       have:(roles.length:Int)≤8:=Int.le_trans hmost (by decide)
       omega
      (refine go ?_;repeat' (apply B<;>intro hb<;>try cases hb))
      refine ZD hC (fun i=>i≤roles.length) (fun i=>roles.length-i) 0 (fun i => [(2,.cp [.vec (words (digs N)) false,.vec (nums ms) fl]),(5,.val (.int .i64 (cntM N (roles.take i)))),(24,.vec (nums roles) false),(25,.val (.int .i64 roles.length)),(26,.val (.int .i64 (i:Int)))]) (fun _=>[]) (Nat.le_refl _) 0 (Nat.zero_le _)
       ⟨⟨rfl,hwi⟩,⟨rfl,trivial⟩,⟨rfl,Zt _ _⟩,⟨by rw [← hl]; rfl,trivial⟩,⟨rfl,trivial⟩,trivial⟩ trivial ?_
      intro i hi
      have hinc:IntKind.i64.wrap ((i:Int)+1)=((i+1:Nat):Int):=IntWalk.i64_in _ ⟨by omega,by omega⟩
      (refine go ?_;repeat' (apply B<;>intro hb<;>try cases hb))
      · have hil : i < roles.length := by simpa using hb
        refine Z5 (Zl (xs:=roles) rfl rfl i rfl hil rfl) rfl rfl ?_
        have hrr:=w.rng roles[i] (List.getElem_mem _)
        have hadd:IntKind.i64.wrap (cntM N (roles.take i)+b2i (N.testBit roles[i].toNat))=cntM N (roles.take (i+1)):=by
         have h1:=Z7U (N:=N) hil
         have h2:=Z43 N (roles.take (i+1))
         have h3:(roles.take (i+1)).length≤roles.length:=by rw [List.length_take]; omega
         rw [← h1]
         exact IntWalk.i64_in _ ⟨by omega,by omega⟩
        (refine go ?_;repeat' (apply B<;>intro hb<;>try cases hb))
        refine Z7 (Z59 N roles[i] (by omega) (by omega)) rfl rfl rfl ⟨⟨Zd _,trivial⟩,trivial,trivial⟩ rfl ?_
        refine Z7 (Zad _) rfl rfl rfl ⟨trivial,trivial⟩ rfl ?_
        refine Zo rfl rfl rfl hadd ?_
        (refine go ?_;repeat' (apply B<;>intro hb<;>try cases hb))
        exact⟨i+1,by omega,by omega,⟨⟨rfl,hwi⟩,⟨rfl,trivial⟩,⟨rfl,Zt _ _⟩,⟨rfl,trivial⟩,⟨by show some _=some _; rw [hinc],trivial⟩,trivial⟩,trivial⟩
      · have hil : i = roles.length := by simp at hb; omega
        subst hil
        rw [List.take_length]
        exact Z3 rfl trivial rfl
   · obtain ⟨r, rfl⟩ := w.role (.inr rfl)
     have hrr:=w.rng r (by simp)
     (refine go ?_;repeat' (apply B<;>intro hb<;>try cases hb))
     refine Zq (Zbb _ (Zd _) ms fl r (by omega)) rfl rfl rfl ⟨hwp,trivial,trivial⟩ ?_
     (refine go ?_;repeat' (apply B<;>intro hb<;>try cases hb))
     exact Z3 rfl trivial rfl
   · obtain ⟨x, rfl⟩ := w.one
     obtain⟨wx,tx⟩:=w.arg x (by simp)
     rw [Z57] at hf
     rw [Z6Z] at hsz
     obtain⟨⟨x1,x2⟩,x3⟩:=Z2h N ms d x (by omega) wx
     have ihx:=ih x (by omega) wx (by omega)
     rw [Z91]
     (refine go ?_;repeat' (apply B<;>intro hb<;>try cases hb))
     refine Zp (Zl (xs := [x]) rfl rfl 0 rfl (Nat.zero_lt_succ _) (Zy _ _)) rfl rfl ?_
     rw [show [x][0]=x from rfl,ZY .u8 x]
     (refine go ?_;repeat' (apply B<;>intro hb<;>try cases hb))
     refine Zq ihx rfl rfl rfl ⟨hwp,Zm _ _,trivial⟩ ?_
     have:IntKind.i64.wrap (1-evM N ms x)=1-evM N ms x:=IntWalk.i64_in _ ⟨by omega,by omega⟩
     (refine go ?_;repeat' (apply B<;>intro hb<;>try cases hb))
     refine Z3 rfl trivial ?_
     rw [this]
   · omega
theorem ZcB {f:Fm} (h:typeOfE f=0):Wf f∧f.depth≤10∧f.size≤200∧typeOfT f=typeM f.op:=by
 unfold typeOfE at h
 unfold typeOfT
 split at h
 · cases h
 · rename_i h1
   split at h
   · rename_i h2
     split at h
     · rename_i h3
       exact⟨⟨h2,h3⟩,by omega,by omega,by rw [if_neg h1,if_pos h2,if_pos h3]⟩
     · cases h
   · rename_i h2; exact absurd h h2
set_option maxHeartbeats 1000000 in
theorem Zbd (N:Nat) (ms:List Int) (fl:Bool) (f:Fm) (hd:f.depth≤1000) (hsz:f.size≤1099511627776):Spec Tryz.prog 36 [.agg (fC .u8 f),setN N,.vec (nums ms) fl] (· = .val (.bool (decide (typeOfE f=0)&&decide (typeOfT f=1)&&decide (evM N ms f=1)))):=by
 refine Z2 ok36 (Nat.le_of_ble_eq_true rfl) fun C hC=>?_
 have hp:pureL [.vec (words (digs N)) false]:=⟨Zd _,trivial⟩
 have hwp:pureL [.vec (words (digs N)) false,.vec (nums ms) fl]:=⟨Zd _,Z9 _,trivial⟩
 refine Zh ?_
 refine Za ?_
 refine Z6 rfl rfl rfl ?_
 refine Z6 rfl rfl rfl ?_
 (refine go ?_;repeat' (apply B<;>intro hb<;>try cases hb))
 refine Z7 (Z8Z f hd hsz) rfl rfl rfl ⟨Zm _ _,trivial⟩ rfl ?_
 (refine go ?_;repeat' (apply B<;>intro hb<;>try cases hb))
 · have h0 : typeOfE f = 0 := by rename_i h; simpa using h
   have h1:typeOfT f=1:=by simpa using hb
   obtain⟨hw,_,hs,_⟩:=ZcB h0
   refine Z7 (Zbc N ms fl f.depth f (Nat.le_refl _) hw (by omega)) rfl rfl rfl ⟨hwp,Zm _ _,trivial⟩ rfl ?_
   (refine go ?_;repeat' (apply B<;>intro hb<;>try cases hb))
   all_goals
    refine Z3 rfl trivial ?_
    simp at hb
    simp [h0,h1,hb]
 · refine Z3 rfl trivial ?_
   simp at hb
   simp [hb]
 · refine Z3 rfl trivial ?_
   simp at hb
   simp [hb]
theorem ZcC (N j:Nat):((((N / 2 ^ j % 2:Nat):Int)) == 1)=N.testBit j:=by
 rw [Nat.testBit_eq_decide_div_mod_eq,Bool.eq_iff_iff]
 simp only [beq_iff_eq,decide_eq_true_eq]
 omega
theorem Z93 (N j:Nat) (h:j<64):Int.fdiv (N:Int) (2 ^ (min ((j:Nat):Int).toNat IntKind.u64.bits))=((N / 2 ^ j:Nat):Int):=by
 rw [show min (((j:Nat):Int)).toNat IntKind.u64.bits=j by simp [IntKind.bits]; omega]
 exact Z20 _ _
theorem Zae (N j:Nat):(((N / 2 ^ j:Nat):Int)).tmod 2=((N / 2 ^ j % 2:Nat):Int):=by
 generalize N / 2 ^ j=z
 rw [Int.tmod_eq_emod_of_nonneg (by omega)]; omega
theorem Zbe (N:Nat):Canon (digs N):=by
 induction N using Nat.strongRecOn with
 | _ N ih =>
   by_cases h:N=0
   · rw [h,Zr]; exact .inl rfl
   · rw [Z1Z h]
     refine .inr ?_
     have:=ih (N / 18446744073709551616) (by omega)
     cases hd:digs (N / 18446744073709551616) with
     | nil =>
       have h0:=Z4I (N / 18446744073709551616)
       rw [hd] at h0
       simp only [ofW] at h0
       simp
       omega
     | cons y s =>
       rw [hd] at this
       rcases this with h|h
       · simp at h
       · simpa using h
theorem ZcD:∀ (l:List Nat) (k:Nat),ofW (l++List.replicate k 0)=ofW l
 | [], k => by
   rw [List.nil_append]
   exact Z4H fun j=>by rw [List.getD_eq_getElem?_getD,List.getElem?_replicate]; split<;>rfl
 | x :: r,k=>by simp only [List.cons_append,ofW,ZcD r k]
theorem ZcE (x j:Nat):x ||| 2 ^ j≠0:=fun h=>by
 have:=congrArg (fun z=>Nat.testBit z j) h
 simp [Nat.testBit_or] at this
theorem Zbf (N i:Nat) (h:i≤4095) (L:Nat) (hL:L=max (digs N).length (i / 64+1)) :
 let l:=digs N++List.replicate (L-(digs N).length) 0
 Words l∧l.length=L∧i / 64<l.length∧∃ v,v=l.getD (i / 64) 0 ||| 2 ^ (i % 64)∧setP (l.set (i / 64) v)=setN (N ||| 2 ^ i):=by
 intro l
 have hw:Words l:=fun x hx=>by
  rcases List.mem_append.1 hx with hx|hx
  · exact Z1v N x hx
  · rw [List.eq_of_mem_replicate hx]; omega
 have hl:l.length=L:=by simp [l]; omega
 have hi:i / 64<l.length:=by omega
 refine⟨hw,hl,hi,_,rfl,?_⟩
 have hm:i % 64<64:=Nat.mod_lt _ (by omega)
 have hv:l.getD (i / 64) 0 ||| 2 ^ (i % 64)<18446744073709551616:=Nat.or_lt_two_pow (n:=64) (hw.getD _) (Nat.pow_lt_pow_right (by omega) hm)
 have hc:Canon (l.set (i / 64) (l.getD (i / 64) 0 ||| 2 ^ (i % 64))):=by
  refine .inr ?_
  rw [List.length_set,hl]
  by_cases he:L-1=i / 64
  · rw [he, List.getD_eq_getElem?_getD, List.getElem?_set]
    simp only [if_pos hi,if_true,Option.getD_some]
    exact ZcE _ _
  · have hLd : L = (digs N).length := by omega
    rw [List.getD_eq_getElem?_getD,List.getElem?_set,if_neg (Ne.symm he),← List.getD_eq_getElem?_getD]
    have hl2:l=digs N:=by simp [l,hLd]
    rw [hl2,hLd]
    rcases Zbe N with h0|h0
    · omega
    · exact h0
 rw [Za7 (hw.set _ hv) hc,Zf2 hw hi hm,ZcD,Z4I,show 64*(i / 64)+i % 64=i by omega]
def withN (N:Nat) (i:Int):Nat:=if 0≤i∧i≤4095 then N ||| 2 ^ i.toNat else N
theorem ZcF {N i:Nat} (h:N.testBit i=true):N ||| 2 ^ i=N:=by
 refine Nat.eq_of_testBit_eq fun j=>?_
 rw [Nat.testBit_or,Nat.testBit_two_pow]
 by_cases hj:i=j
 · subst hj; simp [h]
 · simp [hj]
set_option maxHeartbeats 1000000 in
theorem Z2I (N:Nat) (hN:(digs N).length≤64) (i:Int):Spec Tryz.prog 75 [setN N,.val (.int .i64 i)] (· = setN (withN N i)):=by
 refine Z2 ok75 (Nat.le_of_ble_eq_true rfl) fun C hC=>?_
 refine Zh ?_
 refine Za ?_
 refine Z6 rfl rfl rfl ?_
 (refine go ?_;repeat' (apply B<;>intro hb<;>try cases hb))
 · refine Z3 rfl (Z1 N) ?_
   rw [withN,if_neg (by simp at hb;omega)]; rfl
 · refine Z3 rfl (Z1 N) ?_
   rw [withN,if_neg (by simp at hb;omega)]; rfl
 rename_i h0
 have h1:0≤i:=by simp at h0; omega
 have h2:i≤4095:=by simp at hb; omega
 obtain⟨j,rfl⟩:∃ j:Nat,i=j:=⟨i.toNat,by omega⟩
 rw [withN,if_pos ⟨h1,h2⟩,Int.toNat_natCast]
 have hs:=Z59 N j h1 h2
 rw [Int.toNat_natCast] at hs
 refine Z7 hs rfl rfl rfl ⟨⟨Zd _,trivial⟩,trivial,trivial⟩ rfl ?_
 cases ht:N.testBit j with
 | true =>
   (refine go ?_;repeat' (apply B<;>intro hb<;>try cases hb))
   refine Z3 rfl (Z1 N) ?_
   rw [ZcF ht]; rfl
 | false =>
   have hdl:(words (digs N)).length=(digs N).length:=by simp [words]
   obtain⟨hw,hl,hi,v,hv,hset⟩:=Zbf N j (by omega) _ rfl
   have hq:IntKind.i64.wrap ((j:Int).tdiv 64)=((j / 64:Nat):Int):=by
    rw [IntWalk.i64_quo _ _ ⟨by omega,by omega,by omega⟩]; omega
   have hr:(j:Int).tmod 64=((j % 64:Nat):Int):=by
    rw [Int.tmod_eq_emod_of_nonneg (by omega)]; omega
   have hq1:IntKind.i64.wrap (((j / 64:Nat):Int)+1)=((j / 64+1:Nat):Int):=IntWalk.i64_in _ ⟨by omega,by omega⟩
   have hmax:(if ((j / 64+1:Nat):Int)>(((words (digs N)).length:Nat):Int) then ((j / 64+1:Nat):Int) else (((words (digs N)).length:Nat):Int))=((max (digs N).length (j / 64+1):Nat):Int):=by
    rw [hdl]; split<;>omega
   generalize max (digs N).length (j / 64+1)=L at *
   (refine go ?_;repeat' (apply B<;>intro hb<;>try cases hb))
   rw [hq,hq1,hmax]
   refine ZL (Z6T (a:=L) (b:=L) rfl rfl (Nat.le_refl _) (by omega)) rfl rfl ?_
   have hrep:List.replicate L (zpv [Value.int .u64 0])=words (List.replicate L 0):=by simp [words,zpv,pvOf]
   rw [hrep]
   have hcopy:(words (digs N)).take (words (List.replicate L 0)).length++(words (List.replicate L 0)).drop (words (digs N)).length=words (digs N++List.replicate (L-(digs N).length) 0):=by
    have hle:(digs N).length≤L:=by omega
    have e1:(words (List.replicate L 0)).length=L:=by simp [words]
    rw [e1,List.take_of_length_le (by rw [hdl]; exact hle),hdl]
    simp [words,List.map_append,List.drop_replicate]
   have hwl:∀ c∈words (digs N),c.length=1:=fun c hc=>by obtain⟨x,_,rfl⟩:=List.mem_map.1 hc; rfl
   iterate 7 (first|refine st ?_|(apply B<;>intro hb<;>try cases hb))
   refine Z5 (ZfX (k:=1) rfl rfl rfl hwl rfl) rfl rfl ?_
   simp only
   rw [hcopy]
   generalize digs N++List.replicate (L-(digs N).length) 0=ws at *
   have hm64:j % 64<64:=Nat.mod_lt _ (by omega)
   have hwn:(words ws).length=ws.length:=by simp [words]
   have hel:(words ws).getD (j / 64) [] = [.val (.int .u64 (ws.getD (j / 64) 0:Nat))]:=by simp [words,List.getD_eq_getElem?_getD,hi]
   (refine go ?_;repeat' (apply B<;>intro hb<;>try cases hb))
   rw [hq]
   refine Zp (ZM rfl rfl rfl (j / 64) rfl (by rw [hwn]; exact hi) rfl) rfl rfl ?_
   refine Zp (Z3C rfl rfl (by rw [hwn]; exact hi) (by rw [hel]; rfl)) rfl rfl ?_
   (first|refine st ?_|(apply B<;>intro hb<;>try cases hb))
   refine Zp (Z2p rfl hr) rfl rfl ?_
   refine Zp (Ze9 rfl rfl (by omega) (v:=((2 ^ (j % 64):Nat):Int)) (by
    rw [show min (((j % 64:Nat):Int)).toNat IntKind.u64.bits=j % 64 by simp [IntKind.bits]; omega]
    have:2 ^ (j % 64)<2 ^ 64:=Nat.pow_lt_pow_right (by omega) hm64
    rw [Int.one_mul,show (2:Int) ^ (j % 64)=((2 ^ (j % 64):Nat):Int) by simp]
    exact IntWalk.u64_in _ ⟨Int.natCast_nonneg _,Int.ofNat_le.2 (show _≤18446744073709551615 by omega)⟩)) rfl rfl ?_
   refine Zp (Z2p rfl (bits_or_u64_nat _ _ (hw.getD _) (show 2 ^ (j % 64)<2 ^ 64 from Nat.pow_lt_pow_right (by omega) hm64))) rfl rfl ?_
   refine Zp (ZM rfl rfl rfl (j / 64) rfl (by rw [hwn]; exact hi) rfl) rfl rfl ?_
   refine Zp (Z2D rfl rfl rfl rfl rfl (by rw [hwn]; exact hi) (Nat.le_refl _)) rfl rfl ?_
   rw [hel,show setAt [PV.val (Value.int .u64 (ws.getD (j / 64) 0:Nat))] 0 (PV.val (Value.int .u64 ((ws.getD (j / 64) 0 ||| 2 ^ (j % 64):Nat):Int))).cells = [.val (.int .u64 ((ws.getD (j / 64) 0 ||| 2 ^ (j % 64):Nat):Int))] from rfl]
   simp only
   rw [Z7K,← hv]
   generalize ws.set (j / 64) v=w2 at *
   iterate 4 (first|refine st ?_|(apply B<;>intro hb<;>try cases hb))
   refine Zg (Zk (k:=40) rfl rfl (Zd w2)) ?_
   (refine go ?_;repeat' (apply B<;>intro hb<;>try cases hb))
   refine Z3 rfl (Z2g w2) ?_
   exact hset
theorem Z1P {N:Nat} (h:N<18446744073709551616):(digs N).length≤1:=by
 by_cases h0:N=0
 · rw [h0,Zr]; simp
 · rw [Z1Z h0,Nat.div_eq_of_lt h,Zr]; simp
end Go.Proofs.YtojlnagiaibgkaaGreatDoor
