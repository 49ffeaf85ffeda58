/-
  Merged from the texts that this claim's theorem needs, part 4 of 8. No statement of the seat is proved here.
-/
import Derived.IntWalk
import Derived.WalkSmall
import Derived.Test.YtmnbbggaoembeaaGreatDoorMq2
set_option linter.unusedSimpArgs false
set_option linter.unusedVariables false
set_option linter.unusedSectionVars false
namespace Go.Proofs.YtmnbbggaoembeaaGreatDoor
set_option maxRecDepth 100000
def ir83 : ACode := (sQ (.region [oO 2 (.box (tT 0)),oO 4 (.mov (.const (.int .u64 0)))]) (sQ (sQ (.region [oM 5 1,oO 6 (.faddr 0 (tT 2)),oO 7 (.load false 1 (tT 6)),oO 8 (.len (tT 7)),oO 9 (.bin .lss .num (tT 5) (tT 8))]) (.cond (tT 9) (sQ (.region [oO 10 (.faddr 0 (tT 2)),
 oO 11 (.load false 1 (tT 10)),oM 12 1,oO 13 (.iaddr 1 (tT 11) (tT 12)),oO 14 (.load false 1 (tT 13)),oM 4 14]) .ret) .skip)) (sQ (.region [oO 4 (.mov (.const (.int .u64 0)))]) .ret)))
theorem ok83 : FnOk Tryz.prog 83 15 ir83 [.tmp 4] := Z7 mixed Tryz.func83 (by kernel_rfl) Tryz.ntmps83 (by kernel_rfl) (by kernel_rfl)
def ir84 : ACode := (sQ (.region [oO 2 (.box (tT 0)),oO 3 (.box (tT 1)),oO 4 (.mov kF)]) (sQ (sQ (.region [oO 6 (.faddr 0 (tT 2)),oO 7 (.load false 1 (tT 6)),oO 8 (.len (tT 7)),oO 9 (.faddr 0 (tT 3)),oO 10 (.load false 1 (tT 9)),
 oO 11 (.len (tT 10)),oO 12 (.mn (tT 8) (tT 11)),oO 13 (.mov (kI 0))]) (.block 0 (.loop (sQ (.region [oO 14 (.bin .lss .num (tT 13) (tT 12))]) (sQ (.cond (tT 14) .skip (.exit 0)) (sQ (.block 1 (sQ (.region [oM 15 13,
 oM 5 15]) (sQ (.draw [⟨0,oO 16 (.faddr 0 (tT 2)),0,0,false⟩,⟨1,oO 17 (.load false 1 (tT 16)),1,0,false⟩,⟨2,oM 18 5,0,0,false⟩,⟨3,oO 19 (.iaddr 1 (tT 17) (tT 18)),7,0,false⟩,⟨4,oO 20 (.load false 1 (tT 19)),
 15,0,false⟩,⟨5,oO 21 (.faddr 0 (tT 3)),0,0,false⟩,⟨6,oO 22 (.load false 1 (tT 21)),32,0,false⟩,⟨7,oM 23 5,0,0,false⟩,⟨8,oO 24 (.iaddr 1 (tT 22) (tT 23)),224,0,false⟩,⟨9,oO 25 (.load false 1 (tT 24)),480,
 0,false⟩,⟨10,oO 26 (.bin .and .num (tT 20) (tT 25)),1023,1,false⟩,⟨11,oO 27 (.bin .neq .num (tT 26) (.const (.int .u64 0))),2047,1,false⟩]) (.cond (tT 27) (sQ (.region [oO 4 (.mov kT)]) .ret) .skip)))) (.region [oO 28 (.bin .add .num (tT 13) (kI 1)),
 oM 13 28]))))))) (sQ (.region [oO 4 (.mov kF)]) .ret)))
theorem ok84 : FnOk Tryz.prog 84 29 ir84 [.tmp 4] := Z7 mixed Tryz.func84 (by kernel_rfl) Tryz.ntmps84 (by kernel_rfl) (by kernel_rfl)
def ir85 : ACode := (sQ (.region [oO 1 (.box (tT 0)),oO 2 (.mov (.const .nilFunc))]) (sQ (.region [oO 3 (.mkfn 128 [(tT 1)]),oM 2 3]) .ret))
theorem ok85 : FnOk Tryz.prog 85 4 ir85 [.tmp 2] := Z7 mixed Tryz.func85 (by kernel_rfl) Tryz.ntmps85 (by kernel_rfl) (by kernel_rfl)
def ir86 : ACode := (sQ (.region [oO 4 (.alloc [nS])]) (sQ (sQ (.region [oM 5 0,oO 6 (.bin .eql .ptr (tT 5) (.const (.pointer none))),oM 7 6,oF 7 8 (.mov (tT 1)),oF 7 9 (kC 113 [(tT 8)]),oF 7 10 (.una .not (tT 9)),
 oO 11 (.pick (tT 7) kT (tT 10))]) (.cond (tT 11) (sQ (.region [oO 12 (.build [nS] []),⟨none,.store 1 (tT 4) (tT 12),none⟩]) .ret) .skip)) (sQ (.region [oM 13 0,oO 14 (.nilck (tT 13)),oO 15 (.faddr 0 (tT 14)),
 oO 16 (.load false 1 (tT 15)),oM 17 1,oO 18 (kC 130 [(tT 16),(tT 17)]),oM 19 1,oO 20 (kC 15 [(tT 18),(tT 19)]),⟨none,.store 1 (tT 4) (tT 20),none⟩]) .ret)))
theorem ok86 : FnOk Tryz.prog 86 21 ir86 [.cell 4 true 1] := Z7 mixed Tryz.func86 (by kernel_rfl) Tryz.ntmps86 (by kernel_rfl) (by kernel_rfl)
def ir87 : ACode := (sQ (.region [oO 2 (.box (tT 0)),oO 3 (.box (tT 1)),oO 4 (.mov kF)]) (sQ (sQ (.region [oO 7 (.faddr 0 (tT 2)),oO 8 (.load false 1 (tT 7)),oO 9 (.len (tT 8)),oO 10 (.faddr 0 (tT 3)),
 oO 11 (.load false 1 (tT 10)),oO 12 (.len (tT 11)),oO 13 (.bin .neq .num (tT 9) (tT 12))]) (.cond (tT 13) (sQ (.region [oO 4 (.mov kF)]) .ret) .skip)) (sQ (sQ (.region [oO 14 (.faddr 0 (tT 2)),oO 15 (.load false 1 (tT 14)),
 oO 16 (.len (tT 15)),oO 17 (.mov (kI 0))]) (.block 0 (.loop (sQ (.region [oO 18 (.bin .lss .num (tT 17) (tT 16))]) (sQ (.cond (tT 18) .skip (.exit 0)) (sQ (.block 1 (sQ (.region [oM 19 17,oO 20 (.iaddr 1 (tT 15) (tT 17)),
 oO 21 (.load false 1 (tT 20)),oM 5 19,oM 6 21]) (sQ (.region [oM 22 6,oO 23 (.faddr 0 (tT 3)),oO 24 (.load false 1 (tT 23)),oM 25 5,oO 26 (.iaddr 1 (tT 24) (tT 25)),oO 27 (.load false 1 (tT 26)),oO 28 (.bin .neq .num (tT 22) (tT 27))]) (.cond (tT 28) (sQ (.region [oO 4 (.mov kF)]) .ret) .skip)))) (.region [oO 29 (.bin .add .num (tT 17) (kI 1)),
 oM 17 29]))))))) (sQ (.region [oO 4 (.mov kT)]) .ret))))
theorem ok87 : FnOk Tryz.prog 87 30 ir87 [.tmp 4] := Z7 mixed Tryz.func87 (by kernel_rfl) Tryz.ntmps87 (by kernel_rfl) (by kernel_rfl)
def ir88 : ACode := (sQ (.region [oO 2 (.box (tT 0)),oO 3 (.box (tT 1)),oO 4 (.mov kF)]) (sQ (.draw [⟨0,oO 5 (.faddr 1 (tT 2)),0,1,false⟩,⟨1,oO 6 (.load false 1 (tT 5)),1,1,false⟩,⟨2,oO 7 (.bin .neq .ptr (tT 6) (.const (.pointer none))),
 3,1,false⟩,⟨3,oM 8 7,7,1,false⟩,⟨4,oT 8 9 (.faddr 4 (tT 2)),15,0,false⟩,⟨5,oT 8 10 (.load false 1 (tT 9)),31,0,false⟩,⟨6,oT 8 11 (.faddr 1 (tT 2)),15,0,false⟩,⟨7,oT 8 12 (.load false 1 (tT 11)),79,0,false⟩,
 ⟨8,oT 8 13 (.load true 1 (tT 3)),15,0,false⟩,⟨9,oT 8 14 (kC 37 [(tT 12),(tT 13)]),463,0,false⟩,⟨10,oT 8 15 (kC 78 [(tT 10),(tT 14)]),1023,1,false⟩,⟨11,oT 8 16 (.una .not (tT 15)),2047,1,false⟩,⟨12,oO 17 (.pick (tT 8) (tT 16) kF),
 4095,1,false⟩,⟨13,oM 4 17,8191,1,false⟩]) .ret))
theorem ok88 : FnOk Tryz.prog 88 18 ir88 [.tmp 4] := Z7 mixed Tryz.func88 (by kernel_rfl) Tryz.ntmps88 (by kernel_rfl) (by kernel_rfl)
def ir89 : ACode := (sQ (.region [oO 1 (.box (tT 0)),oO 2 (.mov kF)]) (sQ (.region [oO 3 (.faddr 0 (tT 1)),oO 4 (.load false 1 (tT 3)),oO 5 (.una .not (tT 4)),oM 6 5,oF 6 7 (.faddr 1 (tT 1)),oF 6 8 (.faddr 0 (tT 7)),
 oF 6 9 (.load true 1 (tT 8)),oF 6 10 (kC 90 [(tT 9)]),oF 6 11 (.mov (tT 10)),oT 11 12 (.faddr 1 (tT 1)),oT 11 13 (.faddr 1 (tT 12)),oT 11 14 (.load true 1 (tT 13)),oT 11 15 (kC 90 [(tT 14)]),oF 6 16 (.pick (tT 11) (tT 15) kF),
 oO 17 (.pick (tT 6) kT (tT 16)),oM 2 17]) .ret))
theorem ok89 : FnOk Tryz.prog 89 18 ir89 [.tmp 2] := Z7 mixed Tryz.func89 (by kernel_rfl) Tryz.ntmps89 (by kernel_rfl) (by kernel_rfl)
def ir90 : ACode := (sQ (.region [oO 1 (.box (tT 0)),oO 2 (.mov kF)]) (sQ (.region [oO 3 (.faddr 0 (tT 1)),oO 4 (.load false 1 (tT 3)),oO 5 (.len (tT 4)),oO 6 (.bin .eql .num (tT 5) (kI 0)),oM 2 6]) .ret))
theorem ok90 : FnOk Tryz.prog 90 7 ir90 [.tmp 2] := Z7 mixed Tryz.func90 (by kernel_rfl) Tryz.ntmps90 (by kernel_rfl) (by kernel_rfl)
def ir91 : ACode := (sQ (.region [oO 1 (.box (tT 0)),oO 2 (.mov kF)]) (sQ (.region [oO 4 (.faddr 0 (tT 1)),oO 5 (.load false 1 (tT 4)),oO 6 (.bin .add .num (tT 5) (kI 1)),oO 7 (kC 73 [(tT 6)]),oO 8 (kC 34 [(tT 7),
 (kI 0)]),oO 3 (.alloc [nS]),⟨none,.store 1 (tT 3) (tT 8),none⟩]) (sQ (.region [oO 9 (.faddr 2 (tT 1)),oO 10 (.load true 1 (tT 9)),oO 11 (.load true 1 (tT 3)),oO 12 (kC 75 [(tT 10),(tT 11)]),oM 13 12,oT 13 14 (.faddr 1 (tT 1)),
 oT 13 15 (.load false 1 (tT 14)),oT 13 16 (kC 119 [(tT 15)]),oT 13 17 (.mkfn 132 [(tT 3)]),oT 13 18 (kC 131 [(tT 16),(tT 17)]),oO 19 (.pick (tT 13) (tT 18) kF),oM 20 19,oT 20 21 (.faddr 3 (tT 1)),oT 20 22 (.load false 1 (tT 21)),
 oT 20 23 (.mkfn 133 [(tT 3)]),oT 20 24 (kC 94 [(tT 22),(tT 23)]),oO 25 (.pick (tT 20) (tT 24) kF),oM 26 25,oT 26 27 (.load true 6 (tT 1)),oT 26 28 (kC 93 [(tT 27)]),oT 26 29 (.mkfn 135 [(tT 3)]),oT 26 30 (kC 134 [(tT 28),
 (tT 29)]),oO 31 (.pick (tT 26) (tT 30) kF),oM 2 31]) .ret)))
theorem ok91 : FnOk Tryz.prog 91 32 ir91 [.tmp 2] := Z7 mixed Tryz.func91 (by kernel_rfl) Tryz.ntmps91 (by kernel_rfl) (by kernel_rfl)
def ir92 : ACode := (sQ (.region [oO 4 (.mov kF)]) (sQ (.region [oM 5 0,oM 6 1,oO 7 (kC 136 [(tT 5),(tT 6)]),oO 8 (.bin .geq .num (tT 7) (kI 0)),oM 4 8]) .ret))
theorem ok92 : FnOk Tryz.prog 92 9 ir92 [.tmp 4] := Z7 mixed Tryz.func92 (by kernel_rfl) Tryz.ntmps92 (by kernel_rfl) (by kernel_rfl)
def ir93 : ACode := (sQ (.region [oO 1 (.box (tT 0)),oO 2 (.mov (.const nS))]) (sQ (.region [oO 3 (.mov (.const nS))]) (sQ (sQ (.region [oO 6 (.faddr 3 (tT 1)),oO 7 (.load false 1 (tT 6)),oO 8 (.len (tT 7)),
 oO 9 (.mov (kI 0))]) (.block 0 (.loop (sQ (.region [oO 10 (.bin .lss .num (tT 9) (tT 8))]) (sQ (.cond (tT 10) .skip (.exit 0)) (sQ (.block 1 (sQ (.region [oO 11 (.iaddr 5 (tT 7) (tT 9)),oO 12 (.load true 5 (tT 11)),
 oO 5 (.alloc [(.bool false),nS,nS,(.int .i64 0),(.int .i64 0)]),⟨none,.store 5 (tT 5) (tT 12),none⟩]) (.region [oM 13 3,oO 14 (.faddr 1 (tT 5)),oO 15 (.load true 2 (tT 14)),oO 16 (.bslice [nS,nS] 1 [(0,
 (tT 15))]),oO 17 (.append [nS,nS] 48 (tT 13) (tT 16)),oM 3 17]))) (.region [oO 18 (.bin .add .num (tT 9) (kI 1)),oM 9 18]))))))) (sQ (.draw [⟨0,oM 19 3,0,0,false⟩,⟨1,oO 20 (.faddr 4 (tT 1)),0,0,false⟩,
 ⟨2,oO 21 (.load false 1 (tT 20)),2,0,false⟩,⟨3,oO 22 (.append [nS,nS] 48 (tT 19) (tT 21)),7,14,false⟩,⟨4,oO 23 (.faddr 5 (tT 1)),0,0,false⟩,⟨5,oO 24 (.load false 1 (tT 23)),16,0,false⟩,⟨6,oO 25 (.append [nS,
 nS] 48 (tT 22) (tT 24)),63,1,false⟩,⟨7,oM 2 25,127,1,false⟩]) .ret))))
theorem ok93 : FnOk Tryz.prog 93 26 ir93 [.tmp 2] := Z7 mixed Tryz.func93 (by kernel_rfl) Tryz.ntmps93 (by kernel_rfl) (by kernel_rfl)
def ir94 : ACode := (sQ (.region [oO 3 (.box (tT 1)),oO 4 (.mov kF)]) (sQ (.region [oM 5 0,oO 6 (.mkfn 138 [(tT 3)]),oO 7 (kC 137 [(tT 5),(tT 6)]),oO 8 (.una .not (tT 7)),oM 4 8]) .ret))
theorem ok94 : FnOk Tryz.prog 94 9 ir94 [.tmp 4] := Z7 mixed Tryz.func94 (by kernel_rfl) Tryz.ntmps94 (by kernel_rfl) (by kernel_rfl)
def ir104 : ACode := (sQ (.region [oO 2 (.box (tT 0)),oO 3 (.box (tT 1)),oO 4 (.mov (kI 0))]) (sQ (sQ (.region [oO 5 (.iaddrA 2 1 (tT 2) (kI 0)),oO 6 (.load false 1 (tT 5)),oO 7 (.iaddrA 2 1 (tT 3) (kI 0)),
 oO 8 (.load false 1 (tT 7)),oO 9 (.bin .neq .num (tT 6) (tT 8))]) (.cond (tT 9) (sQ (.region [oO 10 (.iaddrA 2 1 (tT 2) (kI 0)),oO 11 (.load false 1 (tT 10)),oO 12 (.iaddrA 2 1 (tT 3) (kI 0)),oO 13 (.load false 1 (tT 12)),
 oO 14 (.bin .sub .num (tT 11) (tT 13)),oM 4 14]) .ret) .skip)) (sQ (.region [oO 15 (.iaddrA 2 1 (tT 2) (kI 1)),oO 16 (.load false 1 (tT 15)),oO 17 (.iaddrA 2 1 (tT 3) (kI 1)),oO 18 (.load false 1 (tT 17)),
 oO 19 (.bin .sub .num (tT 16) (tT 18)),oM 4 19]) .ret)))
theorem ok104 : FnOk Tryz.prog 104 20 ir104 [.tmp 4] := Z7 mixed Tryz.func104 (by kernel_rfl) Tryz.ntmps104 (by kernel_rfl) (by kernel_rfl)
def ir105 : ACode := (sQ (.region [oO 2 (.mov (.const nS))]) (sQ (.region [oM 3 0,oM 4 0,oO 5 (.len (tT 4)),oM 6 0,oO 7 (.len (tT 6)),oO 8 (.slc 2 (tT 3) none (some (tT 5)) (some (tT 7))),oM 2 8]) .ret))
theorem ok105 : FnOk Tryz.prog 105 9 ir105 [.tmp 2] := Z7 mixed Tryz.func105 (by kernel_rfl) Tryz.ntmps105 (by kernel_rfl) (by kernel_rfl)
def ir106 : ACode := (sQ (.region [oO 2 (.mov (.const nS))]) (sQ (sQ (.region [oM 6 0,oO 7 (.len (tT 6)),oO 8 (.bin .lss .num (tT 7) (kI 2))]) (.cond (tT 8) (sQ (.region [oM 9 0,oM 2 9]) .ret) .skip)) (sQ (sQ (.region [oO 3 (.mov (kI 1))]) (.block 0 (.loop (sQ (sQ (.region [oM 10 3,
 oM 11 0,oO 12 (.len (tT 11)),oO 13 (.bin .lss .num (tT 10) (tT 12))]) (.cond (tT 13) .skip (.exit 0))) (sQ (.block 1 (sQ (.draw [⟨0,oM 16 0,0,0,false⟩,⟨1,oM 17 3,0,0,false⟩,⟨2,oO 18 (.iaddr 2 (tT 16) (tT 17)),
 3,0,false⟩,⟨3,oO 19 (.load true 2 (tT 18)),7,0,false⟩,⟨4,oM 20 0,0,0,false⟩,⟨5,oM 21 3,0,0,false⟩,⟨6,oO 22 (.bin .sub .num (tT 21) (kI 1)),32,0,false⟩,⟨7,oO 23 (.iaddr 2 (tT 20) (tT 22)),112,0,false⟩,⟨8,
 oO 24 (.load true 2 (tT 23)),240,0,false⟩,⟨9,oO 25 (.bin .eql (.cells [0,0]) (tT 19) (tT 24)),511,1,false⟩]) (.cond (tT 25) (sQ (.region [oM 26 0,oM 27 3,oO 28 (.slc 2 (tT 26) (some (tT 27)) none none),
 oM 4 28]) (sQ (sQ (.region [oO 5 (.mov (kI 1))]) (.block 2 (.loop (sQ (sQ (.region [oM 29 5,oM 30 4,oO 31 (.len (tT 30)),oO 32 (.bin .lss .num (tT 29) (tT 31))]) (.cond (tT 32) .skip (.exit 2))) (sQ (.block 3 (sQ (.draw [⟨0,
 oM 35 4,0,0,false⟩,⟨1,oM 36 5,0,0,false⟩,⟨2,oO 37 (.iaddr 2 (tT 35) (tT 36)),3,0,false⟩,⟨3,oO 38 (.load true 2 (tT 37)),7,0,false⟩,⟨4,oM 39 4,0,0,false⟩,⟨5,oM 40 5,0,0,false⟩,⟨6,oO 41 (.bin .sub .num (tT 40) (kI 1)),
 32,0,false⟩,⟨7,oO 42 (.iaddr 2 (tT 39) (tT 41)),112,0,false⟩,⟨8,oO 43 (.load true 2 (tT 42)),240,0,false⟩,⟨9,oO 44 (.bin .neq (.cells [0,0]) (tT 38) (tT 43)),511,1,false⟩]) (.cond (tT 44) (sQ (.region [oM 45 0,
 oM 46 3,oM 47 4,oM 48 5,oO 49 (.iaddr 2 (tT 47) (tT 48)),oO 50 (.load true 2 (tT 49)),oO 51 (.iaddr 2 (tT 45) (tT 46)),⟨none,.store 2 (tT 51) (tT 50),none⟩]) (.region [oM 52 3,oO 53 (.bin .add .num (tT 52) (kI 1)),
 oM 3 53])) .skip))) (.region [oM 33 5,oO 34 (.bin .add .num (tT 33) (kI 1)),oM 5 34])))))) (sQ (.region [oM 54 0,oM 55 3,oO 56 (.slc 2 (tT 54) (some (tT 55)) none none),⟨none,.clear [(.int .i64 0),(.int .i64 0)] (tT 56),
 none⟩]) (sQ (.region [oM 57 0,oM 58 3,oO 59 (.slc 2 (tT 57) none (some (tT 58)) none),oM 2 59]) .ret)))) .skip))) (.region [oM 14 3,oO 15 (.bin .add .num (tT 14) (kI 1)),oM 3 15])))))) (sQ (.region [oM 60 0,
 oM 2 60]) .ret))))
theorem ok106 : FnOk Tryz.prog 106 61 ir106 [.tmp 2] := Z7 mixed Tryz.func106 (by kernel_rfl) Tryz.ntmps106 (by kernel_rfl) (by kernel_rfl)
def ir107 : ACode := (sQ (.region [oO 2 (.mov kF)]) (sQ (.region [oM 9 0,oO 10 (.nilck (tT 9)),oO 11 (.faddr 0 (tT 10)),oO 12 (.load false 1 (tT 11)),oO 13 (.mslice [(.int .i64 0)] 8 (tT 12) (tT 12)),oM 3 13]) (sQ (sQ (.region [oM 14 0,
 oO 15 (.nilck (tT 14)),oO 16 (.faddr 1 (tT 15)),oO 17 (.load false 1 (tT 16)),oO 18 (.len (tT 17)),oO 19 (.mov (kI 0))]) (.block 0 (.loop (sQ (.region [oO 20 (.bin .lss .num (tT 19) (tT 18))]) (sQ (.cond (tT 20) .skip (.exit 0)) (sQ (.block 1 (sQ (.region [oO 21 (.iaddr 2 (tT 17) (tT 19)),
 oO 22 (.load true 2 (tT 21)),oO 5 (.alloc [(.int .i64 0),(.int .i64 0)]),⟨none,.store 2 (tT 5) (tT 22),none⟩]) (.region [oM 23 3,oO 24 (.iaddrA 2 1 (tT 5) (kI 1)),oO 25 (.load false 1 (tT 24)),oO 26 (.iaddr 1 (tT 23) (tT 25)),
 oO 27 (.load false 1 (tT 26)),oO 28 (.bin .add .num (tT 27) (kI 1)),oO 29 (.iaddr 1 (tT 23) (tT 25)),⟨none,.store 1 (tT 29) (tT 28),none⟩]))) (.region [oO 30 (.bin .add .num (tT 19) (kI 1)),oM 19 30]))))))) (sQ (.block 2 (.loop (sQ (sQ (.draw [⟨0,
 oM 31 0,0,0,false⟩,⟨1,oO 32 (.nilck (tT 31)),1,0,false⟩,⟨2,oO 33 (.faddr 4 (tT 32)),3,0,false⟩,⟨3,oO 34 (.load false 1 (tT 33)),7,0,false⟩,⟨4,oO 35 (.len (tT 34)),15,0,false⟩,⟨5,oM 36 0,0,0,false⟩,⟨6,oO 37 (.nilck (tT 36)),
 32,0,false⟩,⟨7,oO 38 (.faddr 0 (tT 37)),96,0,false⟩,⟨8,oO 39 (.load false 1 (tT 38)),224,0,false⟩,⟨9,oO 40 (.bin .lss .num (tT 35) (tT 39)),511,1,false⟩]) (.cond (tT 40) .skip (.exit 2))) (.block 3 (sQ (.region [oM 41 3,
 oO 42 (kC 148 [(tT 41),(kI 0)]),oM 6 42]) (sQ (sQ (.region [oM 43 6,oO 44 (.bin .lss .num (tT 43) (kI 0))]) (.cond (tT 44) (sQ (.region [oO 2 (.mov kF)]) .ret) .skip)) (sQ (.region [oM 45 3,oM 46 6,oO 47 (.iaddr 1 (tT 45) (tT 46)),
 ⟨none,.store 1 (tT 47) (.const (.int .i64 (-1))),none⟩]) (sQ (.region [oM 48 0,oM 49 0,oO 50 (.nilck (tT 49)),oO 51 (.faddr 4 (tT 50)),oO 52 (.load false 1 (tT 51)),oM 53 6,oO 54 (.bslice [(.int .i64 0)] 1 [(0,
 (tT 53))]),oO 55 (.append [(.int .i64 0)] 8 (tT 52) (tT 54)),oO 56 (.nilck (tT 48)),oO 57 (.faddr 4 (tT 56)),⟨none,.store 1 (tT 57) (tT 55),none⟩]) (sQ (.region [oM 58 0,oO 59 (.nilck (tT 58)),oO 60 (.faddr 1 (tT 59)),
 oO 61 (.load false 1 (tT 60)),oO 62 (.len (tT 61)),oO 63 (.mov (kI 0))]) (.block 4 (.loop (sQ (.region [oO 64 (.bin .lss .num (tT 63) (tT 62))]) (sQ (.cond (tT 64) .skip (.exit 4)) (sQ (.block 5 (sQ (.region [oO 65 (.iaddr 2 (tT 61) (tT 63)),
 oO 66 (.load true 2 (tT 65)),oO 8 (.alloc [(.int .i64 0),(.int .i64 0)]),⟨none,.store 2 (tT 8) (tT 66),none⟩]) (sQ (.region [oO 67 (.iaddrA 2 1 (tT 8) (kI 0)),oO 68 (.load false 1 (tT 67)),oM 69 6,oO 70 (.bin .eql .num (tT 68) (tT 69))]) (.cond (tT 70) (.region [oM 71 3,
 oO 72 (.iaddrA 2 1 (tT 8) (kI 1)),oO 73 (.load false 1 (tT 72)),oO 74 (.iaddr 1 (tT 71) (tT 73)),oO 75 (.load false 1 (tT 74)),oO 76 (.bin .sub .num (tT 75) (kI 1)),oO 77 (.iaddr 1 (tT 71) (tT 73)),⟨none,
 .store 1 (tT 77) (tT 76),none⟩]) .skip)))) (.region [oO 78 (.bin .add .num (tT 63) (kI 1)),oM 63 78]))))))))))))))) (sQ (.region [oO 2 (.mov kT)]) .ret)))))
theorem ok107 : FnOk Tryz.prog 107 79 ir107 [.tmp 2] := Z7 mixed Tryz.func107 (by kernel_rfl) Tryz.ntmps107 (by kernel_rfl) (by kernel_rfl)
def ir108 : ACode := (sQ (.region [oO 1 (.box (tT 0))]) (sQ (.draw [⟨0,oO 10 (.load false 1 (tT 1)),0,0,false⟩,⟨1,oO 11 (.load false 1 (tT 1)),0,0,false⟩,⟨2,oO 12 (.load false 1 (tT 1)),0,0,false⟩,⟨3,oO 13 (.nilck (tT 12)),
 4,0,false⟩,⟨4,oO 14 (.faddr 0 (tT 13)),12,0,false⟩,⟨5,oO 15 (.load false 1 (tT 14)),28,0,false⟩,⟨6,oO 16 (.mslice [nS] 24 (tT 15) (tT 15)),60,0,false⟩,⟨7,oO 17 (.load false 1 (tT 1)),0,0,false⟩,⟨8,oO 18 (.nilck (tT 17)),
 128,0,false⟩,⟨9,oO 19 (.faddr 0 (tT 18)),384,0,false⟩,⟨10,oO 20 (.load false 1 (tT 19)),896,0,false⟩,⟨11,oO 21 (.mslice [nS] 24 (tT 20) (tT 20)),1920,0,false⟩,⟨12,oO 22 (.nilck (tT 10)),2045,0,false⟩,⟨13,
 oO 23 (.faddr 2 (tT 22)),6141,0,false⟩,⟨14,⟨none,.store 1 (tT 23) (tT 16),none⟩,14333,28666,false⟩,⟨15,oO 24 (.nilck (tT 11)),32767,1,false⟩,⟨16,oO 25 (.faddr 3 (tT 24)),65535,1,false⟩,⟨17,⟨none,.store 1 (tT 25) (tT 21),
 none⟩,131071,1,false⟩]) (sQ (.region [oO 26 (.load false 1 (tT 1)),oO 27 (.nilck (tT 26)),oO 28 (.faddr 0 (tT 27)),oO 29 (.load false 1 (tT 28)),oO 30 (.mslice [nS] 24 (tT 29) (tT 29)),oM 2 30]) (sQ (sQ (.region [oO 31 (.load false 1 (tT 1)),
 oO 32 (.nilck (tT 31)),oO 33 (.faddr 1 (tT 32)),oO 34 (.load false 1 (tT 33)),oO 35 (.len (tT 34)),oO 36 (.mov (kI 0))]) (.block 0 (.loop (sQ (.region [oO 37 (.bin .lss .num (tT 36) (tT 35))]) (sQ (.cond (tT 37) .skip (.exit 0)) (sQ (.block 1 (sQ (.region [oO 38 (.iaddr 2 (tT 34) (tT 36)),
 oO 39 (.load true 2 (tT 38)),oO 4 (.alloc [(.int .i64 0),(.int .i64 0)]),⟨none,.store 2 (tT 4) (tT 39),none⟩]) (.draw [⟨0,oM 40 2,0,0,false⟩,⟨1,oO 41 (.iaddrA 2 1 (tT 4) (kI 1)),0,0,false⟩,⟨2,oO 42 (.load false 1 (tT 41)),
 2,0,false⟩,⟨3,oM 43 2,0,0,false⟩,⟨4,oO 44 (.iaddrA 2 1 (tT 4) (kI 1)),0,0,false⟩,⟨5,oO 45 (.load false 1 (tT 44)),16,0,false⟩,⟨6,oO 46 (.iaddr 1 (tT 43) (tT 45)),56,0,false⟩,⟨7,oO 47 (.load false 1 (tT 46)),
 120,0,false⟩,⟨8,oO 48 (.iaddrA 2 1 (tT 4) (kI 0)),0,0,false⟩,⟨9,oO 49 (.load false 1 (tT 48)),256,0,false⟩,⟨10,oO 50 (.bslice [(.int .i64 0)] 1 [(0,(tT 49))]),768,0,false⟩,⟨11,oO 51 (.append [(.int .i64 0)] 8 (tT 47) (tT 50)),
 2040,4080,false⟩,⟨12,oO 52 (.iaddr 1 (tT 40) (tT 42)),4095,1,false⟩,⟨13,⟨none,.store 1 (tT 52) (tT 51),none⟩,8191,1,false⟩]))) (.region [oO 53 (.bin .add .num (tT 36) (kI 1)),oM 36 53]))))))) (sQ (.region [oO 54 (.load false 1 (tT 1)),
 oO 55 (.nilck (tT 54)),oO 56 (.faddr 4 (tT 55)),oO 57 (.load false 1 (tT 56)),oO 58 (.len (tT 57)),oO 59 (.mov (kI 0))]) (.block 2 (.loop (sQ (.region [oO 60 (.bin .lss .num (tT 59) (tT 58))]) (sQ (.cond (tT 60) .skip (.exit 2)) (sQ (.block 3 (sQ (.region [oO 61 (.iaddr 1 (tT 57) (tT 59)),
 oO 62 (.load false 1 (tT 61)),oO 6 (.alloc [(.int .i64 0)]),⟨none,.store 1 (tT 6) (tT 62),none⟩]) (sQ (sQ (.region [oM 63 2,oO 64 (.load false 1 (tT 6)),oO 65 (.iaddr 1 (tT 63) (tT 64)),oO 66 (.load false 1 (tT 65)),
 oO 67 (.len (tT 66)),oO 68 (.mov (kI 0))]) (.block 4 (.loop (sQ (.region [oO 69 (.bin .lss .num (tT 68) (tT 67))]) (sQ (.cond (tT 69) .skip (.exit 4)) (sQ (.block 5 (sQ (.region [oO 70 (.iaddr 1 (tT 66) (tT 68)),
 oO 71 (.load false 1 (tT 70)),oM 8 71]) (.draw [⟨0,oO 72 (.load false 1 (tT 1)),0,0,false⟩,⟨1,oO 73 (.nilck (tT 72)),1,0,false⟩,⟨2,oO 74 (.faddr 2 (tT 73)),3,0,false⟩,⟨3,oO 75 (.load false 1 (tT 74)),7,
 0,false⟩,⟨4,oO 76 (.load false 1 (tT 6)),0,0,false⟩,⟨5,oO 77 (.load false 1 (tT 1)),0,0,false⟩,⟨6,oO 78 (.nilck (tT 77)),32,0,false⟩,⟨7,oO 79 (.faddr 2 (tT 78)),96,0,false⟩,⟨8,oO 80 (.load false 1 (tT 79)),
 224,0,false⟩,⟨9,oO 81 (.load false 1 (tT 6)),0,0,false⟩,⟨10,oO 82 (.iaddr 1 (tT 80) (tT 81)),992,0,false⟩,⟨11,oO 83 (.load true 1 (tT 82)),2016,0,false⟩,⟨12,oO 84 (.load false 1 (tT 1)),0,0,false⟩,⟨13,
 oO 85 (.nilck (tT 84)),4096,0,false⟩,⟨14,oO 86 (.faddr 2 (tT 85)),12288,0,false⟩,⟨15,oO 87 (.load false 1 (tT 86)),28672,0,false⟩,⟨16,oM 88 8,0,0,false⟩,⟨17,oO 89 (.iaddr 1 (tT 87) (tT 88)),126976,0,false⟩,
 ⟨18,oO 90 (.load true 1 (tT 89)),258048,0,false⟩,⟨19,oO 91 (kC 74 [(tT 83),(tT 90)]),524256,0,false⟩,⟨20,oM 92 8,0,0,false⟩,⟨21,oO 93 (kC 15 [(tT 91),(tT 92)]),2097120,0,false⟩,⟨22,oO 94 (.iaddr 1 (tT 75) (tT 76)),
 4194303,1,false⟩,⟨23,⟨none,.store 1 (tT 94) (tT 93),none⟩,8388607,1,false⟩]))) (.region [oO 95 (.bin .add .num (tT 68) (kI 1)),oM 68 95]))))))) (sQ (.draw [⟨0,oO 96 (.load false 1 (tT 1)),0,0,false⟩,⟨1,
 oO 97 (.nilck (tT 96)),1,0,false⟩,⟨2,oO 98 (.faddr 2 (tT 97)),3,0,false⟩,⟨3,oO 99 (.load false 1 (tT 98)),7,0,false⟩,⟨4,oO 100 (.load false 1 (tT 6)),0,0,false⟩,⟨5,oO 101 (.iaddr 1 (tT 99) (tT 100)),31,
 1,false⟩,⟨6,oO 102 (.load true 1 (tT 101)),63,1,false⟩,⟨7,oO 103 (kC 85 [(tT 102)]),127,1,false⟩]) (.block 6 (.range (tT 103) [104] [(9,(tT 104))] (.block 7 (.draw [⟨0,oO 105 (.load false 1 (tT 1)),0,0,
 false⟩,⟨1,oO 106 (.nilck (tT 105)),1,0,false⟩,⟨2,oO 107 (.faddr 3 (tT 106)),3,0,false⟩,⟨3,oO 108 (.load false 1 (tT 107)),7,0,false⟩,⟨4,oM 109 9,0,0,false⟩,⟨5,oO 110 (.load false 1 (tT 1)),0,0,false⟩,⟨6,
 oO 111 (.nilck (tT 110)),32,0,false⟩,⟨7,oO 112 (.faddr 3 (tT 111)),96,0,false⟩,⟨8,oO 113 (.load false 1 (tT 112)),224,0,false⟩,⟨9,oM 114 9,0,0,false⟩,⟨10,oO 115 (.iaddr 1 (tT 113) (tT 114)),992,0,false⟩,
 ⟨11,oO 116 (.load true 1 (tT 115)),2016,0,false⟩,⟨12,oO 117 (.load false 1 (tT 6)),0,0,false⟩,⟨13,oO 118 (kC 15 [(tT 116),(tT 117)]),8160,0,false⟩,⟨14,oO 119 (.iaddr 1 (tT 108) (tT 109)),16383,1,false⟩,
 ⟨15,⟨none,.store 1 (tT 119) (tT 118),none⟩,32767,1,false⟩])))))))) (.region [oO 120 (.bin .add .num (tT 59) (kI 1)),oM 59 120])))))))))))
theorem ok108 : FnOk Tryz.prog 108 121 ir108 [] := Z7 mixed Tryz.func108 (by kernel_rfl) Tryz.ntmps108 (by kernel_rfl) (by kernel_rfl)
def ir109 : ACode := (sQ (.region [oO 2 (.mov kF)]) (sQ (.region [oM 3 0,oO 4 (.bin .geq .num (tT 3) (kI 1)),oM 5 4,oT 5 6 (.mov (tT 0)),oT 5 7 (.bin .leq .num (tT 6) (kI 63)),oO 8 (.pick (tT 5) (tT 7) kF),
 oM 2 8]) .ret))
theorem ok109 : FnOk Tryz.prog 109 9 ir109 [.tmp 2] := Z7 mixed Tryz.func109 (by kernel_rfl) Tryz.ntmps109 (by kernel_rfl) (by kernel_rfl)
def ir110 : ACode := (sQ (.region [oO 6 (.mov kF)]) (sQ (sQ (.region [oM 9 0,oO 10 (.len (tT 9)),oO 11 (.mov (kI 0))]) (.block 0 (.loop (sQ (.region [oO 12 (.bin .lss .num (tT 11) (tT 10))]) (sQ (.cond (tT 12) .skip (.exit 0)) (sQ (.block 1 (sQ (.region [oO 13 (.iaddr 2 (tT 9) (tT 11)),
 oO 14 (.load true 2 (tT 13)),oO 8 (.alloc [(.int .i64 0),(.int .i64 0)]),⟨none,.store 2 (tT 8) (tT 14),none⟩]) (sQ (.region [oO 15 (.iaddrA 2 1 (tT 8) (kI 0)),oO 16 (.load false 1 (tT 15)),oM 17 1,oO 18 (.bin .eql .num (tT 16) (tT 17)),
 oM 19 18,oT 19 20 (.iaddrA 2 1 (tT 8) (kI 1)),oT 19 21 (.load false 1 (tT 20)),oT 19 22 (.mov (tT 2)),oT 19 23 (.bin .eql .num (tT 21) (tT 22)),oO 24 (.pick (tT 19) (tT 23) kF)]) (.cond (tT 24) (sQ (.region [oO 6 (.mov kT)]) .ret) .skip)))) (.region [oO 25 (.bin .add .num (tT 11) (kI 1)),
 oM 11 25]))))))) (sQ (.region [oO 6 (.mov kF)]) .ret)))
theorem ok110 : FnOk Tryz.prog 110 26 ir110 [.tmp 6] := Z7 mixed Tryz.func110 (by kernel_rfl) Tryz.ntmps110 (by kernel_rfl) (by kernel_rfl)
def ir111 : ACode := (sQ (.region [oO 6 (.mov kF)]) (sQ (.region [oM 7 2,oO 8 (kC 109 [(tT 7)]),oM 9 8,oT 9 10 (.mov (tT 0)),oT 9 11 (.mov (tT 1)),oT 9 12 (kC 112 [(tT 10),(tT 11)]),oT 9 13 (.mov (tT 2)),
 oT 9 14 (.bin .shr .num (tT 12) (tT 13)),oT 9 15 (.bin .rem .num (tT 14) (.const (.int .u64 2))),oT 9 16 (.bin .eql .num (tT 15) (.const (.int .u64 1))),oO 17 (.pick (tT 9) (tT 16) kF),oM 6 17]) .ret))
theorem ok111 : FnOk Tryz.prog 111 18 ir111 [.tmp 6] := Z7 mixed Tryz.func111 (by kernel_rfl) Tryz.ntmps111 (by kernel_rfl) (by kernel_rfl)
def ir112 : ACode := (sQ (.region [oO 4 (.mov (.const (.int .u64 0)))]) (sQ (sQ (.region [oM 9 1,oO 10 (kC 109 [(tT 9)]),oO 11 (.una .not (tT 10))]) (.cond (tT 11) (sQ (.region [oO 4 (.mov (.const (.int .u64 0)))]) .ret) .skip)) (sQ (.region [oM 12 1,
 oO 13 (.bin .shl .num (.const (.int .u64 1)) (tT 12)),oM 5 13]) (.block 0 (.loop (.block 1 (sQ (.region [oM 14 5,oM 6 14]) (sQ (sQ (.region [oM 15 0,oO 16 (.len (tT 15)),oO 17 (.mov (kI 0))]) (.block 2 (.loop (sQ (.region [oO 18 (.bin .lss .num (tT 17) (tT 16))]) (sQ (.cond (tT 18) .skip (.exit 2)) (sQ (.block 3 (sQ (.region [oO 19 (.iaddr 2 (tT 15) (tT 17)),
 oO 20 (.load true 2 (tT 19)),oO 8 (.alloc [(.int .i64 0),(.int .i64 0)]),⟨none,.store 2 (tT 8) (tT 20),none⟩]) (sQ (.region [oM 21 5,oO 22 (.iaddrA 2 1 (tT 8) (kI 0)),oO 23 (.load false 1 (tT 22)),oO 24 (.bin .shr .num (tT 21) (tT 23)),
 oO 25 (.bin .rem .num (tT 24) (.const (.int .u64 2))),oO 26 (.bin .eql .num (tT 25) (.const (.int .u64 1)))]) (.cond (tT 26) (.region [oM 27 6,oO 28 (.iaddrA 2 1 (tT 8) (kI 1)),oO 29 (.load false 1 (tT 28)),
 oO 30 (.bin .shl .num (.const (.int .u64 1)) (tT 29)),oO 31 (.bin .or .num (tT 27) (tT 30)),oM 6 31]) .skip)))) (.region [oO 32 (.bin .add .num (tT 17) (kI 1)),oM 17 32]))))))) (sQ (sQ (.region [oM 33 6,
 oM 34 5,oO 35 (.bin .eql .num (tT 33) (tT 34))]) (.cond (tT 35) (sQ (.region [oM 36 5,oM 4 36]) .ret) .skip)) (.region [oM 37 6,oM 5 37]))))))))))
theorem ok112 : FnOk Tryz.prog 112 38 ir112 [.tmp 4] := Z7 mixed Tryz.func112 (by kernel_rfl) Tryz.ntmps112 (by kernel_rfl) (by kernel_rfl)
def ir113 : ACode := (sQ (.region [oO 2 (.mov kF)]) (sQ (.region [oM 3 0,oO 4 (.bin .geq .num (tT 3) (kI 1)),oM 5 4,oT 5 6 (.mov (tT 0)),oT 5 7 (.bin .leq .num (tT 6) (kI 63)),oO 8 (.pick (tT 5) (tT 7) kF),
 oM 2 8]) .ret))
theorem ok113 : FnOk Tryz.prog 113 9 ir113 [.tmp 2] := Z7 mixed Tryz.func113 (by kernel_rfl) Tryz.ntmps113 (by kernel_rfl) (by kernel_rfl)
def ir114 : ACode := (sQ (.region [oO 6 (.mov (.const (.pointer none))),oO 7 (.mov (kI 0))]) (sQ (sQ (.region [oM 8 0,oO 9 (.bin .eql .ptr (tT 8) (.const (.pointer none)))]) (.cond (tT 9) (sQ (.region [oO 6 (.mov (.const (.pointer none))),
 oO 7 (.mov (kI 1))]) .ret) .skip)) (sQ (sQ (.region [oM 10 0,oM 11 1,oO 12 (kC 149 [(tT 10),(tT 11)]),oO 13 (.una .not (tT 12)),oM 14 13,oF 14 15 (.mov (tT 0)),oF 14 16 (.mov (tT 2)),oF 14 17 (kC 149 [(tT 15),
 (tT 16)]),oF 14 18 (.una .not (tT 17)),oO 19 (.pick (tT 14) kT (tT 18))]) (.cond (tT 19) (sQ (.region [oO 6 (.mov (.const (.pointer none))),oO 7 (.mov (kI 2))]) .ret) .skip)) (sQ (sQ (.region [oM 20 0,
 oO 21 (.nilck (tT 20)),oO 22 (.faddr 1 (tT 21)),oO 23 (.load false 1 (tT 22)),oM 24 1,oM 25 2,oO 26 (.build [(.int .i64 0),(.int .i64 0)] [(0,1,(tT 24)),(1,1,(tT 25))]),oO 27 (kC 150 [(tT 23),(tT 26)])]) (.cond (tT 27) (sQ (.region [oO 6 (.mov (.const (.pointer none))),
 oO 7 (.mov (kI 5))]) .ret) .skip)) (sQ (.draw [⟨0,oM 28 0,0,0,false⟩,⟨1,oO 29 (.nilck (tT 28)),1,0,false⟩,⟨2,oO 30 (.faddr 0 (tT 29)),3,0,false⟩,⟨3,oO 31 (.load false 1 (tT 30)),7,0,false⟩,⟨4,oM 32 0,0,
 0,false⟩,⟨5,oO 33 (kC 151 [(tT 32)]),16,0,false⟩,⟨6,oM 34 1,0,0,false⟩,⟨7,oM 35 2,0,0,false⟩,⟨8,oO 36 (.build [(.int .i64 0),(.int .i64 0)] [(0,1,(tT 34)),(1,1,(tT 35))]),192,0,false⟩,⟨9,oO 37 (.bslice [(.int .i64 0),
 (.int .i64 0)] 1 [(0,(tT 36))]),448,0,false⟩,⟨10,oO 38 (.append [(.int .i64 0),(.int .i64 0)] 16 (tT 33) (tT 37)),1008,2016,false⟩,⟨11,oO 39 (kC 48 [(tT 31),(tT 38)]),2047,1,false⟩,⟨12,oO 40 (.extract (tT 39) 0),
 4095,1,false⟩,⟨13,oO 41 (.extract (tT 39) 1),4095,1,false⟩,⟨14,oM 6 40,16383,1,false⟩,⟨15,oM 7 41,32767,1,false⟩]) .ret)))))
theorem ok114 : FnOk Tryz.prog 114 42 ir114 [.tmp 6, .tmp 7] := Z7 mixed Tryz.func114 (by kernel_rfl) Tryz.ntmps114 (by kernel_rfl) (by kernel_rfl)
def ir117 : ACode := (sQ (.region [oM 4 0,oO 5 (.bin .neq .ptr (tT 4) (.const (.pointer none)))]) (.cond (tT 5) (.region [oM 6 0,oM 7 0,oO 8 (.nilck (tT 7)),oO 9 (.faddr 0 (tT 8)),oO 10 (.load false 1 (tT 9)),
 oM 11 1,oO 12 (.append [(.int .u8 0)] 1 (tT 10) (tT 11)),oO 13 (.nilck (tT 6)),oO 14 (.faddr 0 (tT 13)),⟨none,.store 1 (tT 14) (tT 12),none⟩]) .skip))
theorem ok117 : FnOk Tryz.prog 117 15 ir117 [] := Z7 mixed Tryz.func117 (by kernel_rfl) Tryz.ntmps117 (by kernel_rfl) (by kernel_rfl)
def ir118 : ACode := (sQ (.region [oO 2 (.mov (.const nS))]) (sQ (.region [oM 4 0,oO 5 (.bin .and .num (tT 4) (.const (.int .u64 127))),oO 6 (.conv .u8 (tT 5)),oO 7 (.bslice [(.int .u8 0)] 1 [(0,(tT 6))]),
 oM 3 7]) (sQ (sQ (.region [oM 8 0,oO 9 (.bin .shr .num (tT 8) (.const (.int .u64 7))),oM 0 9]) (.block 0 (.loop (sQ (sQ (.region [oM 10 0,oO 11 (.bin .gtr .num (tT 10) (.const (.int .u64 0)))]) (.cond (tT 11) .skip (.exit 0))) (sQ (.block 1 (.region [oM 14 3,
 oM 15 0,oO 16 (.bin .and .num (tT 15) (.const (.int .u64 127))),oO 17 (.conv .u8 (tT 16)),oO 18 (.bin .or .num (tT 17) (.const (.int .u8 128))),oO 19 (.bslice [(.int .u8 0)] 1 [(0,(tT 18))]),oO 20 (.append [(.int .u8 0)] 1 (tT 14) (tT 19)),
 oM 3 20])) (.region [oM 12 0,oO 13 (.bin .shr .num (tT 12) (.const (.int .u64 7))),oM 0 13])))))) (sQ (.region [oM 21 3,oO 22 (kC 154 [(tT 21)])]) (sQ (.region [oM 23 3,oM 2 23]) .ret)))))
theorem ok118 : FnOk Tryz.prog 118 24 ir118 [.tmp 2] := Z7 mixed Tryz.func118 (by kernel_rfl) Tryz.ntmps118 (by kernel_rfl) (by kernel_rfl)
def ir119 : ACode := (sQ (.region [oO 2 (.mov (.const nS))]) (sQ (sQ (.region [oM 3 0,oO 4 (.bin .eql .ptr (tT 3) (.const (.pointer none)))]) (.cond (tT 4) (sQ (.region [oO 2 (.mov (.const nS))]) .ret) .skip)) (sQ (.region [oM 5 0,
 oO 6 (.nilck (tT 5)),oO 7 (.faddr 0 (tT 6)),oO 8 (.load false 1 (tT 7)),oO 9 (kC 151 [(tT 8)]),oM 2 9]) .ret)))
theorem ok119 : FnOk Tryz.prog 119 10 ir119 [.tmp 2] := Z7 mixed Tryz.func119 (by kernel_rfl) Tryz.ntmps119 (by kernel_rfl) (by kernel_rfl)
def ir120 : ACode := (sQ (.region [oO 1 (.box (tT 0)),oO 2 (.mov (.const nS))]) (sQ (.region [oO 8 (.load true 1 (tT 1)),oO 9 (kC 155 [(tT 8)]),oM 7 9,oO 10 (.extract (tT 7) 0),oO 11 (.extract (tT 7) 1),
 oM 3 10,oM 4 11]) (sQ (sQ (.region [oM 12 4,oO 13 (.una .not (tT 12))]) (.cond (tT 13) (sQ (.region [oO 2 (.mov (.const nS))]) .ret) .skip)) (sQ (.region [oM 14 3,oO 15 (.bin .quo .num (tT 14) (kI 8)),
 oO 16 (.bin .add .num (tT 15) (kI 1)),oO 17 (.mslice [(.int .u8 0)] 1 (tT 16) (tT 16)),oM 5 17]) (sQ (sQ (.region [oM 18 5,oO 19 (.len (tT 18)),oO 20 (.mov (kI 0))]) (.block 0 (.loop (sQ (.region [oO 21 (.bin .lss .num (tT 20) (tT 19))]) (sQ (.cond (tT 21) .skip (.exit 0)) (sQ (.block 1 (sQ (.region [oM 22 20,
 oM 6 22]) (.region [oM 23 5,oM 24 6,oO 25 (.faddr 0 (tT 1)),oO 26 (.load false 1 (tT 25)),oM 27 6,oO 28 (.bin .quo .num (tT 27) (kI 8)),oO 29 (.iaddr 1 (tT 26) (tT 28)),oO 30 (.load false 1 (tT 29)),oM 31 6,
 oO 32 (.bin .rem .num (tT 31) (kI 8)),oO 33 (.bin .mul .num (kI 8) (tT 32)),oO 34 (.bin .shr .num (tT 30) (tT 33)),oO 35 (.conv .u8 (tT 34)),oO 36 (.iaddr 1 (tT 23) (tT 24)),⟨none,.store 1 (tT 36) (tT 35),
 none⟩]))) (.region [oO 37 (.bin .add .num (tT 20) (kI 1)),oM 20 37]))))))) (sQ (.region [oM 38 5,oM 2 38]) .ret))))))
theorem ok120 : FnOk Tryz.prog 120 39 ir120 [.tmp 2] := Z7 mixed Tryz.func120 (by kernel_rfl) Tryz.ntmps120 (by kernel_rfl) (by kernel_rfl)
def ir121 : ACode := (.region [oM 4 0,oM 5 1,oO 6 (.s2b (tT 5)),oO 7 (kC 63 [(tT 4),(tT 6)])])
theorem ok121 : FnOk Tryz.prog 121 8 ir121 [] := Z7 mixed Tryz.func121 (by kernel_rfl) Tryz.ntmps121 (by kernel_rfl) (by kernel_rfl)
def ir122 : ACode := (sQ (.region [oO 2 (.alloc [(.int .u8 0),(.int .u8 0),(.int .u8 0),(.int .u8 0),(.int .u8 0),(.int .u8 0),(.int .u8 0),(.int .u8 0),(.int .u8 0),(.int .u8 0),(.int .u8 0),(.int .u8 0),
 (.int .u8 0),(.int .u8 0),(.int .u8 0),(.int .u8 0),(.int .u8 0),(.int .u8 0),(.int .u8 0),(.int .u8 0),(.int .u8 0),(.int .u8 0),(.int .u8 0),(.int .u8 0),(.int .u8 0),(.int .u8 0),(.int .u8 0),(.int .u8 0),
 (.int .u8 0),(.int .u8 0),(.int .u8 0),(.int .u8 0)])]) (sQ (.region [oO 4 (kC 156 []),oM 3 4]) (sQ (.region [oM 5 3,oM 6 0,oO 7 (kC 157 [(tT 5),(tT 6)])]) (sQ (.region [oM 8 3,oO 9 (kC 158 [(tT 8)]),⟨none,
 .store 32 (tT 2) (tT 9),none⟩]) .ret))))
theorem ok122 : FnOk Tryz.prog 122 10 ir122 [.cell 2 true 32] := Z7 mixed Tryz.func122 (by kernel_rfl) Tryz.ntmps122 (by kernel_rfl) (by kernel_rfl)
def ir123 : ACode := (sQ (.region [oO 2 (.mov (.const nS))]) (sQ (sQ (.region [oM 3 0,oO 4 (.isnil false (tT 3))]) (.cond (tT 4) (sQ (.region [oO 2 (.mov (.const nS))]) .ret) .skip)) (sQ (.region [oO 5 (.bslice [(.int .u8 0)] 0 []),
 oM 6 0,oO 7 (.append [(.int .u8 0)] 1 (tT 5) (tT 6)),oM 2 7]) .ret)))
theorem ok123 : FnOk Tryz.prog 123 8 ir123 [.tmp 2] := Z7 mixed Tryz.func123 (by kernel_rfl) Tryz.ntmps123 (by kernel_rfl) (by kernel_rfl)
def ir124 : ACode := (sQ (.region [oO 4 (.mov (kI 0))]) (sQ (sQ (.region [oM 6 0,oO 7 (.len (tT 6)),oO 8 (.mov (kI 0))]) (.block 0 (.loop (sQ (.region [oO 9 (.bin .lss .num (tT 8) (tT 7))]) (sQ (.cond (tT 9) .skip (.exit 0)) (sQ (.block 1 (sQ (.region [oM 10 8,
 oM 5 10]) (sQ (.region [oM 11 1,oM 12 0,oM 13 5,oO 14 (.iaddr 1 (tT 12) (tT 13)),oO 15 (.load false 1 (tT 14)),oO 16 (.call (tT 11) [(tT 15)])]) (.cond (tT 16) (sQ (.region [oM 17 5,oM 4 17]) .ret) .skip)))) (.region [oO 18 (.bin .add .num (tT 8) (kI 1)),
 oM 8 18]))))))) (sQ (.region [oO 4 (.mov (.const (.int .i64 (-1))))]) .ret)))
theorem ok124 : FnOk Tryz.prog 124 19 ir124 [.tmp 4] := Z7 mixed Tryz.func124 (by kernel_rfl) Tryz.ntmps124 (by kernel_rfl) (by kernel_rfl)
def ir125 : ACode := (sQ (.region [oO 2 (.box (tT 0)),oO 3 (.mov kF)]) (sQ (.region [oO 4 (.load true 2 (tT 2)),oO 5 (.load true 1 (tT 1)),oO 6 (kC 36 [(tT 4),(tT 5)]),oM 3 6]) .ret))
theorem ok125 : FnOk Tryz.prog 125 7 ir125 [.tmp 3] := Z7 mixed Tryz.func125 (by kernel_rfl) Tryz.ntmps125 (by kernel_rfl) (by kernel_rfl)
def ir126 : ACode := (sQ (.region [oO 2 (.box (tT 0)),oO 4 (.alloc [nS]),oO 5 (.mov kF)]) (sQ (.draw [⟨0,oO 6 (.load true 6 (tT 2)),0,0,false⟩,⟨1,oM 7 1,0,0,false⟩,⟨2,oO 8 (.load true 6 (tT 2)),0,0,false⟩,
 ⟨3,oM 9 1,0,0,false⟩,⟨4,oO 10 (kC 160 [(tT 8),(tT 9)]),12,0,false⟩,⟨5,oO 11 (.faddr 0 (tT 2)),0,0,false⟩,⟨6,oO 12 (.load false 1 (tT 11)),32,0,false⟩,⟨7,oO 13 (.bin .add .num (tT 12) (kI 1)),96,0,false⟩,
 ⟨8,oO 14 (kC 73 [(tT 13)]),252,0,false⟩,⟨9,oO 15 (kC 140 [(tT 10),(tT 14)]),508,0,false⟩,⟨10,oO 16 (.build [nS] []),0,0,false⟩,⟨11,oO 17 (kC 159 [(tT 6),(tT 7),(tT 15),(tT 16)]),2047,1,false⟩,⟨12,oO 18 (.extract (tT 17) 0),
 4095,1,false⟩,⟨13,oO 19 (.extract (tT 17) 1),4095,1,false⟩,⟨14,⟨none,.store 1 (tT 4) (tT 18),none⟩,16383,1,false⟩,⟨15,oM 5 19,32767,1,false⟩]) .ret))
theorem ok126 : FnOk Tryz.prog 126 20 ir126 [.cell 4 true 1, .tmp 5] := Z7 mixed Tryz.func126 (by kernel_rfl) Tryz.ntmps126 (by kernel_rfl) (by kernel_rfl)
def ir128 : ACode := (sQ (.region [oO 5 (.faddr 0 (tT 1)),oO 6 (.load false 1 (tT 5)),oO 7 (.len (tT 6)),oO 8 (.mov (kI 0))]) (.block 0 (.loop (sQ (.region [oO 9 (.bin .lss .num (tT 8) (tT 7))]) (sQ (.cond (tT 9) .skip (.exit 0)) (sQ (.block 1 (sQ (.region [oM 10 8,
 oO 11 (.iaddr 1 (tT 6) (tT 8)),oO 12 (.load false 1 (tT 11)),oM 3 10,oM 4 12]) (.block 2 (.loop (sQ (sQ (.region [oM 13 4,oO 14 (.bin .neq .num (tT 13) (.const (.int .u64 0)))]) (.cond (tT 14) .skip (.exit 2))) (sQ (.block 3 (sQ (.region [oM 19 0,
 oM 20 3,oO 21 (.bin .mul .num (kI 64) (tT 20)),oM 22 4,oO 23 (kC 129 [(tT 22)]),oO 24 (.bin .add .num (tT 21) (tT 23)),oO 25 (.call (tT 19) [(tT 24)]),oO 26 (.una .not (tT 25))]) (.cond (tT 26) .ret .skip))) (.region [oM 15 4,
 oM 16 4,oO 17 (.bin .sub .num (tT 16) (.const (.int .u64 1))),oO 18 (.bin .and .num (tT 15) (tT 17)),oM 4 18]))))))) (.region [oO 27 (.bin .add .num (tT 8) (kI 1)),oM 8 27])))))))
theorem ok128 : FnOk Tryz.prog 128 28 ir128 [] := Z7 mixed Tryz.func128 (by kernel_rfl) Tryz.ntmps128 (by kernel_rfl) (by kernel_rfl)
def ir129 : ACode := (sQ (.region [oO 2 (.mov (kI 0))]) (sQ (sQ (.region [oM 3 0,oO 4 (.bin .eql .num (tT 3) (.const (.int .u64 0)))]) (.cond (tT 4) (sQ (.region [oO 2 (.mov (kI 64))]) .ret) .skip)) (sQ (.region [oM 5 0,
 oM 6 0,oO 7 (.una .neg (tT 6)),oO 8 (.bin .and .num (tT 5) (tT 7)),oO 9 (.bin .mul .num (tT 8) (.const (.int .u64 285870213051353865))),oO 10 (.bin .shr .num (tT 9) (.const (.int .u64 58))),oO 11 (.iaddrA 64 1 (.global 0) (tT 10)),
 oO 12 (.load false 1 (tT 11)),oO 13 (.conv .i64 (tT 12)),oM 2 13]) .ret)))
theorem ok129 : FnOk Tryz.prog 129 14 ir129 [.tmp 2] := Z7 mixed Tryz.func129 (by kernel_rfl) Tryz.ntmps129 (by kernel_rfl) (by kernel_rfl)
def ir130 : ACode := (sQ (.region [oO 4 (.alloc [nS])]) (sQ (sQ (.region [oM 5 0,oM 6 1,oO 7 (kC 149 [(tT 5),(tT 6)]),oO 8 (.una .not (tT 7))]) (.cond (tT 8) (sQ (.region [oO 9 (.build [nS] []),⟨none,.store 1 (tT 4) (tT 9),
 none⟩]) .ret) .skip)) (sQ (.region [oM 10 0,oO 11 (.nilck (tT 10)),oO 12 (.faddr 3 (tT 11)),oO 13 (.load false 1 (tT 12)),oM 14 1,oO 15 (.iaddr 1 (tT 13) (tT 14)),oO 16 (.load true 1 (tT 15)),⟨none,.store 1 (tT 4) (tT 16),
 none⟩]) .ret)))
theorem ok130 : FnOk Tryz.prog 130 17 ir130 [.cell 4 true 1] := Z7 mixed Tryz.func130 (by kernel_rfl) Tryz.ntmps130 (by kernel_rfl) (by kernel_rfl)
def ir131 : ACode := (sQ (.region [oO 3 (.box (tT 1)),oO 4 (.mov kF)]) (sQ (.region [oM 5 0,oO 6 (.mkfn 162 [(tT 3)]),oO 7 (kC 161 [(tT 5),(tT 6)]),oO 8 (.una .not (tT 7)),oM 4 8]) .ret))
theorem ok131 : FnOk Tryz.prog 131 9 ir131 [.tmp 4] := Z7 mixed Tryz.func131 (by kernel_rfl) Tryz.ntmps131 (by kernel_rfl) (by kernel_rfl)
def ir132 : ACode := (sQ (.region [oO 2 (.box (tT 0)),oO 3 (.mov kF)]) (sQ (.region [oO 4 (.load true 1 (tT 1)),oO 5 (.iaddrA 2 1 (tT 2) (kI 0)),oO 6 (.load false 1 (tT 5)),oO 7 (kC 35 [(tT 4),(tT 6)]),
 oM 8 7,oT 8 9 (.load true 1 (tT 1)),oT 8 10 (.iaddrA 2 1 (tT 2) (kI 1)),oT 8 11 (.load false 1 (tT 10)),oT 8 12 (kC 35 [(tT 9),(tT 11)]),oO 13 (.pick (tT 8) (tT 12) kF),oM 3 13]) .ret))
theorem ok132 : FnOk Tryz.prog 132 14 ir132 [.tmp 3] := Z7 mixed Tryz.func132 (by kernel_rfl) Tryz.ntmps132 (by kernel_rfl) (by kernel_rfl)
def ir133 : ACode := (sQ (.region [oO 2 (.box (tT 0)),oO 3 (.mov kF)]) (sQ (.region [oO 4 (.load true 1 (tT 1)),oO 5 (.faddr 3 (tT 2)),oO 6 (.load false 1 (tT 5)),oO 7 (kC 35 [(tT 4),(tT 6)]),oM 3 7]) .ret))
theorem ok133 : FnOk Tryz.prog 133 8 ir133 [.tmp 3] := Z7 mixed Tryz.func133 (by kernel_rfl) Tryz.ntmps133 (by kernel_rfl) (by kernel_rfl)
def ir134 : ACode := (sQ (.region [oO 3 (.box (tT 1)),oO 4 (.mov kF)]) (sQ (.region [oM 5 0,oO 6 (.mkfn 163 [(tT 3)]),oO 7 (kC 92 [(tT 5),(tT 6)]),oO 8 (.una .not (tT 7)),oM 4 8]) .ret))
theorem ok134 : FnOk Tryz.prog 134 9 ir134 [.tmp 4] := Z7 mixed Tryz.func134 (by kernel_rfl) Tryz.ntmps134 (by kernel_rfl) (by kernel_rfl)
def ir135 : ACode := (sQ (.region [oO 2 (.box (tT 0)),oO 3 (.mov kF)]) (sQ (.draw [⟨0,oO 4 (.faddr 0 (tT 2)),0,0,false⟩,⟨1,oO 5 (.load true 1 (tT 4)),1,0,false⟩,⟨2,oO 6 (.faddr 1 (tT 2)),0,0,false⟩,⟨3,
 oO 7 (.load true 1 (tT 6)),4,0,false⟩,⟨4,oO 8 (kC 74 [(tT 5),(tT 7)]),15,0,false⟩,⟨5,oO 9 (.load true 1 (tT 1)),0,0,false⟩,⟨6,oO 10 (kC 75 [(tT 8),(tT 9)]),63,1,false⟩,⟨7,oM 3 10,127,1,false⟩]) .ret))
theorem ok135 : FnOk Tryz.prog 135 11 ir135 [.tmp 3] := Z7 mixed Tryz.func135 (by kernel_rfl) Tryz.ntmps135 (by kernel_rfl) (by kernel_rfl)
def ir136 : ACode := (sQ (.region [oO 4 (.mov (kI 0))]) (sQ (sQ (.region [oM 6 0,oO 7 (.len (tT 6)),oO 8 (.mov (kI 0))]) (.block 0 (.loop (sQ (.region [oO 9 (.bin .lss .num (tT 8) (tT 7))]) (sQ (.cond (tT 9) .skip (.exit 0)) (sQ (.block 1 (sQ (.region [oM 10 8,
 oM 5 10]) (sQ (.region [oM 11 1,oM 12 0,oM 13 5,oO 14 (.iaddr 2 (tT 12) (tT 13)),oO 15 (.load true 2 (tT 14)),oO 16 (.call (tT 11) [(tT 15)])]) (.cond (tT 16) (sQ (.region [oM 17 5,oM 4 17]) .ret) .skip)))) (.region [oO 18 (.bin .add .num (tT 8) (kI 1)),
 oM 8 18]))))))) (sQ (.region [oO 4 (.mov (.const (.int .i64 (-1))))]) .ret)))
theorem ok136 : FnOk Tryz.prog 136 19 ir136 [.tmp 4] := Z7 mixed Tryz.func136 (by kernel_rfl) Tryz.ntmps136 (by kernel_rfl) (by kernel_rfl)
def ir137 : ACode := (sQ (.region [oO 4 (.mov kF)]) (sQ (.region [oM 5 0,oM 6 1,oO 7 (kC 164 [(tT 5),(tT 6)]),oO 8 (.bin .geq .num (tT 7) (kI 0)),oM 4 8]) .ret))
theorem ok137 : FnOk Tryz.prog 137 9 ir137 [.tmp 4] := Z7 mixed Tryz.func137 (by kernel_rfl) Tryz.ntmps137 (by kernel_rfl) (by kernel_rfl)
def ir138 : ACode := (sQ (.region [oO 2 (.box (tT 0)),oO 3 (.mov kF)]) (sQ (.region [oO 4 (.load false 1 (tT 1)),oO 5 (.load true 5 (tT 2)),oO 6 (.call (tT 4) [(tT 5)]),oO 7 (.una .not (tT 6)),oM 3 7]) .ret))
theorem ok138 : FnOk Tryz.prog 138 8 ir138 [.tmp 3] := Z7 mixed Tryz.func138 (by kernel_rfl) Tryz.ntmps138 (by kernel_rfl) (by kernel_rfl)
def ir139 : ACode := (sQ (.region [oO 4 (.alloc [nS])]) (sQ (sQ (.region [oM 5 0,oO 6 (.bin .eql .ptr (tT 5) (.const (.pointer none))),oM 7 6,oF 7 8 (.mov (tT 1)),oF 7 9 (kC 113 [(tT 8)]),oF 7 10 (.una .not (tT 9)),
 oO 11 (.pick (tT 7) kT (tT 10))]) (.cond (tT 11) (sQ (.region [oO 12 (.build [nS] []),⟨none,.store 1 (tT 4) (tT 12),none⟩]) .ret) .skip)) (sQ (.region [oM 13 0,oO 14 (.nilck (tT 13)),oO 15 (.faddr 0 (tT 14)),
 oO 16 (.load false 1 (tT 15)),oM 17 1,oO 18 (kC 165 [(tT 16),(tT 17)]),oM 19 1,oO 20 (kC 15 [(tT 18),(tT 19)]),⟨none,.store 1 (tT 4) (tT 20),none⟩]) .ret)))
theorem ok139 : FnOk Tryz.prog 139 21 ir139 [.cell 4 true 1] := Z7 mixed Tryz.func139 (by kernel_rfl) Tryz.ntmps139 (by kernel_rfl) (by kernel_rfl)
def ir140 : ACode := (sQ (.region [oO 2 (.box (tT 0)),oO 3 (.box (tT 1)),oO 4 (.alloc [nS])]) (sQ (.region [oO 7 (.faddr 0 (tT 2)),oO 8 (.load false 1 (tT 7)),oO 9 (.len (tT 8)),oO 10 (.faddr 0 (tT 3)),
 oO 11 (.load false 1 (tT 10)),oO 12 (.len (tT 11)),oO 13 (.mn (tT 9) (tT 12)),oO 14 (.mslice [(.int .u64 0)] 8 (tT 13) (tT 13)),oM 5 14]) (sQ (sQ (.region [oM 15 5,oO 16 (.len (tT 15)),oO 17 (.mov (kI 0))]) (.block 0 (.loop (sQ (.region [oO 18 (.bin .lss .num (tT 17) (tT 16))]) (sQ (.cond (tT 18) .skip (.exit 0)) (sQ (.block 1 (sQ (.region [oM 19 17,
 oM 6 19]) (.draw [⟨0,oM 20 5,0,0,false⟩,⟨1,oM 21 6,0,0,false⟩,⟨2,oO 22 (.faddr 0 (tT 2)),0,0,false⟩,⟨3,oO 23 (.load false 1 (tT 22)),4,0,false⟩,⟨4,oM 24 6,0,0,false⟩,⟨5,oO 25 (.iaddr 1 (tT 23) (tT 24)),
 28,0,false⟩,⟨6,oO 26 (.load false 1 (tT 25)),60,0,false⟩,⟨7,oO 27 (.faddr 0 (tT 3)),0,0,false⟩,⟨8,oO 28 (.load false 1 (tT 27)),128,0,false⟩,⟨9,oM 29 6,0,0,false⟩,⟨10,oO 30 (.iaddr 1 (tT 28) (tT 29)),896,
 0,false⟩,⟨11,oO 31 (.load false 1 (tT 30)),1920,0,false⟩,⟨12,oO 32 (.bin .and .num (tT 26) (tT 31)),4092,1,false⟩,⟨13,oO 33 (.iaddr 1 (tT 20) (tT 21)),8191,1,false⟩,⟨14,⟨none,.store 1 (tT 33) (tT 32),none⟩,
 16383,1,false⟩]))) (.region [oO 34 (.bin .add .num (tT 17) (kI 1)),oM 17 34]))))))) (sQ (.region [oM 35 5,oO 36 (kC 47 [(tT 35)]),⟨none,.store 1 (tT 4) (tT 36),none⟩]) .ret))))
theorem ok140 : FnOk Tryz.prog 140 37 ir140 [.cell 4 true 1] := Z7 mixed Tryz.func140 (by kernel_rfl) Tryz.ntmps140 (by kernel_rfl) (by kernel_rfl)
def ir148 : ACode := (sQ (.region [oO 4 (.mov (kI 0))]) (sQ (sQ (.region [oM 6 0,oO 7 (.len (tT 6)),oO 8 (.mov (kI 0))]) (.block 0 (.loop (sQ (.region [oO 9 (.bin .lss .num (tT 8) (tT 7))]) (sQ (.cond (tT 9) .skip (.exit 0)) (sQ (.block 1 (sQ (.region [oM 10 8,
 oM 5 10]) (sQ (.region [oM 11 1,oM 12 0,oM 13 5,oO 14 (.iaddr 1 (tT 12) (tT 13)),oO 15 (.load false 1 (tT 14)),oO 16 (.bin .eql .num (tT 11) (tT 15))]) (.cond (tT 16) (sQ (.region [oM 17 5,oM 4 17]) .ret) .skip)))) (.region [oO 18 (.bin .add .num (tT 8) (kI 1)),
 oM 8 18]))))))) (sQ (.region [oO 4 (.mov (.const (.int .i64 (-1))))]) .ret)))
theorem ok148 : FnOk Tryz.prog 148 19 ir148 [.tmp 4] := Z7 mixed Tryz.func148 (by kernel_rfl) Tryz.ntmps148 (by kernel_rfl) (by kernel_rfl)
def ir149 : ACode := (sQ (.region [oO 4 (.mov kF)]) (sQ (.region [oM 5 0,oO 6 (.bin .neq .ptr (tT 5) (.const (.pointer none))),oM 7 6,oT 7 8 (.mov (tT 1)),oT 7 9 (.bin .geq .num (tT 8) (kI 0)),oO 10 (.pick (tT 7) (tT 9) kF),
 oM 11 10,oT 11 12 (.mov (tT 1)),oT 11 13 (.mov (tT 0)),oT 11 14 (.nilck (tT 13)),oT 11 15 (.faddr 0 (tT 14)),oT 11 16 (.load false 1 (tT 15)),oT 11 17 (.bin .lss .num (tT 12) (tT 16)),oO 18 (.pick (tT 11) (tT 17) kF),
 oM 4 18]) .ret))
theorem ok149 : FnOk Tryz.prog 149 19 ir149 [.tmp 4] := Z7 mixed Tryz.func149 (by kernel_rfl) Tryz.ntmps149 (by kernel_rfl) (by kernel_rfl)
def ir150 : ACode := (sQ (.region [oO 3 (.box (tT 1)),oO 4 (.mov kF)]) (sQ (.region [oM 5 0,oO 6 (.load true 2 (tT 3)),oO 7 (kC 181 [(tT 5),(tT 6)]),oO 8 (.bin .geq .num (tT 7) (kI 0)),oM 4 8]) .ret))
theorem ok150 : FnOk Tryz.prog 150 9 ir150 [.tmp 4] := Z7 mixed Tryz.func150 (by kernel_rfl) Tryz.ntmps150 (by kernel_rfl) (by kernel_rfl)
def ir151 : ACode := (sQ (.region [oO 2 (.mov (.const nS))]) (sQ (sQ (.region [oM 3 0,oO 4 (.bin .eql .ptr (tT 3) (.const (.pointer none)))]) (.cond (tT 4) (sQ (.region [oO 2 (.mov (.const nS))]) .ret) .skip)) (sQ (.region [oM 5 0,
 oO 6 (.nilck (tT 5)),oO 7 (.faddr 1 (tT 6)),oO 8 (.load false 1 (tT 7)),oO 9 (kC 182 [(tT 8)]),oM 2 9]) .ret)))
theorem ok151 : FnOk Tryz.prog 151 10 ir151 [.tmp 2] := Z7 mixed Tryz.func151 (by kernel_rfl) Tryz.ntmps151 (by kernel_rfl) (by kernel_rfl)
def ir154 : ACode := (sQ (.region [oM 4 0,oO 5 (.len (tT 4)),oO 6 (.bin .sub .num (tT 5) (kI 1)),oO 2 (.mov (kI 0)),oM 3 6]) (.block 0 (.loop (sQ (sQ (.region [oM 7 2,oM 8 3,oO 9 (.bin .lss .num (tT 7) (tT 8))]) (.cond (tT 9) .skip (.exit 0))) (sQ (.block 1 (.draw [⟨0,
 oM 14 0,0,0,false⟩,⟨1,oM 15 2,0,0,false⟩,⟨2,oM 16 0,0,0,false⟩,⟨3,oM 17 3,0,0,false⟩,⟨4,oM 18 0,0,0,false⟩,⟨5,oM 19 3,0,0,false⟩,⟨6,oO 20 (.iaddr 1 (tT 18) (tT 19)),48,0,false⟩,⟨7,oO 21 (.load false 1 (tT 20)),
 112,0,false⟩,⟨8,oM 22 0,0,0,false⟩,⟨9,oM 23 2,0,0,false⟩,⟨10,oO 24 (.iaddr 1 (tT 22) (tT 23)),768,0,false⟩,⟨11,oO 25 (.load false 1 (tT 24)),1792,0,false⟩,⟨12,oO 26 (.iaddr 1 (tT 14) (tT 15)),4083,1,false⟩,
 ⟨13,⟨none,.store 1 (tT 26) (tT 21),none⟩,8179,1,false⟩,⟨14,oO 27 (.iaddr 1 (tT 16) (tT 17)),16383,1,false⟩,⟨15,⟨none,.store 1 (tT 27) (tT 25),none⟩,32767,1,false⟩])) (.region [oM 10 2,oO 11 (.bin .add .num (tT 10) (kI 1)),
 oM 12 3,oO 13 (.bin .sub .num (tT 12) (kI 1)),oM 2 11,oM 3 13]))))))
theorem ok154 : FnOk Tryz.prog 154 28 ir154 [] := Z7 mixed Tryz.func154 (by kernel_rfl) Tryz.ntmps154 (by kernel_rfl) (by kernel_rfl)
def ir155 : ACode := (sQ (.region [oO 1 (.box (tT 0)),oO 2 (.mov (kI 0)),oO 3 (.mov kF)]) (sQ (sQ (.region [oO 5 (.load true 1 (tT 1)),oO 6 (kC 90 [(tT 5)])]) (.cond (tT 6) (sQ (.region [oO 2 (.mov (kI 0)),
 oO 3 (.mov kF)]) .ret) .skip)) (sQ (.region [oO 7 (.faddr 0 (tT 1)),oO 8 (.load false 1 (tT 7)),oO 9 (.len (tT 8)),oO 10 (.bin .sub .num (tT 9) (kI 1)),oM 4 10]) (sQ (.region [oM 11 4,oO 12 (.bin .mul .num (kI 64) (tT 11)),
 oO 13 (.faddr 0 (tT 1)),oO 14 (.load false 1 (tT 13)),oM 15 4,oO 16 (.iaddr 1 (tT 14) (tT 15)),oO 17 (.load false 1 (tT 16)),oO 18 (kC 180 [(tT 17)]),oO 19 (.bin .add .num (tT 12) (tT 18)),oO 20 (.bin .sub .num (tT 19) (kI 1)),
 oM 2 20,oO 3 (.mov kT)]) .ret))))
theorem ok155 : FnOk Tryz.prog 155 21 ir155 [.tmp 2, .tmp 3] := Z7 mixed Tryz.func155 (by kernel_rfl) Tryz.ntmps155 (by kernel_rfl) (by kernel_rfl)
def ir156 : ACode := (sQ (.region [oO 0 (.mov (.const (.pointer none)))]) (sQ (.region [oO 1 (.build [(.int .u64 0),(.int .u64 0),(.int .u64 0),(.int .u64 0),(.int .u64 0),(.int .u64 0),(.int .u64 0),(.int .u64 0),
 (.int .u64 0),(.int .u64 0),(.int .u64 0),(.int .u64 0),(.int .u64 0),(.int .u64 0),(.int .u64 0),(.int .u64 0),(.int .u64 0),(.int .u64 0),(.int .u64 0),(.int .u64 0),(.int .u64 0),(.int .u64 0),(.int .u64 0),
 (.int .u64 0),(.int .u64 0),(.int .u8 0),(.int .u8 0),(.int .u8 0),(.int .u8 0),(.int .u8 0),(.int .u8 0),(.int .u8 0),(.int .u8 0),(.int .u8 0),(.int .u8 0),(.int .u8 0),(.int .u8 0),(.int .u8 0),(.int .u8 0),
 (.int .u8 0),(.int .u8 0),(.int .u8 0),(.int .u8 0),(.int .u8 0),(.int .u8 0),(.int .u8 0),(.int .u8 0),(.int .u8 0),(.int .u8 0),(.int .u8 0),(.int .u8 0),(.int .u8 0),(.int .u8 0),(.int .u8 0),(.int .u8 0),
 (.int .u8 0),(.int .u8 0),(.int .u8 0),(.int .u8 0),(.int .u8 0),(.int .u8 0),(.int .u8 0),(.int .u8 0),(.int .u8 0),(.int .u8 0),(.int .u8 0),(.int .u8 0),(.int .u8 0),(.int .u8 0),(.int .u8 0),(.int .u8 0),
 (.int .u8 0),(.int .u8 0),(.int .u8 0),(.int .u8 0),(.int .u8 0),(.int .u8 0),(.int .u8 0),(.int .u8 0),(.int .u8 0),(.int .u8 0),(.int .u8 0),(.int .u8 0),(.int .u8 0),(.int .u8 0),(.int .u8 0),(.int .u8 0),
 (.int .u8 0),(.int .u8 0),(.int .u8 0),(.int .u8 0),(.int .u8 0),(.int .u8 0),(.int .u8 0),(.int .u8 0),(.int .u8 0),(.int .u8 0),(.int .u8 0),(.int .u8 0),(.int .u8 0),(.int .u8 0),(.int .u8 0),(.int .u8 0),
 (.int .u8 0),(.int .u8 0),(.int .u8 0),(.int .u8 0),(.int .u8 0),(.int .u8 0),(.int .u8 0),(.int .u8 0),(.int .u8 0),(.int .u8 0),(.int .u8 0),(.int .u8 0),(.int .u8 0),(.int .u8 0),(.int .u8 0),(.int .u8 0),
 (.int .u8 0),(.int .u8 0),(.int .u8 0),(.int .u8 0),(.int .u8 0),(.int .u8 0),(.int .u8 0),(.int .u8 0),(.int .u8 0),(.int .u8 0),(.int .u8 0),(.int .u8 0),(.int .u8 0),(.int .u8 0),(.int .u8 0),(.int .u8 0),
 (.int .u8 0),(.int .u8 0),(.int .u8 0),(.int .u8 0),(.int .u8 0),(.int .u8 0),(.int .u8 0),(.int .u8 0),(.int .u8 0),(.int .u8 0),(.int .u8 0),(.int .u8 0),(.int .u8 0),(.int .u8 0),(.int .u8 0),(.int .u8 0),
 (.int .u8 0),(.int .u8 0),(.int .u8 0),(.int .u8 0),(.int .u8 0),(.int .u8 0),(.int .u8 0),(.int .u8 0),(.int .u8 0),(.int .u8 0),(.int .i64 0),(.int .u64 0)] []),oO 2 (.box (tT 1)),oM 0 2]) .ret))
theorem ok156 : FnOk Tryz.prog 156 3 ir156 [.tmp 0] := Z7 mixed Tryz.func156 (by kernel_rfl) Tryz.ntmps156 (by kernel_rfl) (by kernel_rfl)
def ir157 : ACode := (sQ (sQ (.region [oM 5 0,oO 6 (.bin .eql .ptr (tT 5) (.const (.pointer none)))]) (.cond (tT 6) .ret .skip)) (sQ (.region [oM 7 0,oO 8 (.nilck (tT 7)),oO 9 (.faddr 162 (tT 8)),oO 10 (.load false 1 (tT 9)),
 oM 11 1,oO 12 (.len (tT 11)),oO 13 (.conv .u64 (tT 12)),oO 14 (.bin .add .num (tT 10) (tT 13)),oO 15 (.nilck (tT 7)),oO 16 (.faddr 162 (tT 15)),⟨none,.store 1 (tT 16) (tT 14),none⟩]) (.block 0 (.loop (sQ (sQ (.region [oM 17 1,
 oO 18 (.len (tT 17)),oO 19 (.bin .gtr .num (tT 18) (kI 0))]) (.cond (tT 19) .skip (.exit 0))) (.block 1 (sQ (.draw [⟨0,oM 20 0,0,0,false⟩,⟨1,oO 21 (.nilck (tT 20)),1,0,false⟩,⟨2,oO 22 (.faddr 25 (tT 21)),
 3,0,false⟩,⟨3,oM 23 0,0,1,false⟩,⟨4,oO 24 (.nilck (tT 23)),8,1,false⟩,⟨5,oO 25 (.faddr 161 (tT 24)),24,1,false⟩,⟨6,oO 26 (.load false 1 (tT 25)),56,1,false⟩,⟨7,oO 27 (.slcA 136 (tT 22) (some (tT 26)) none),
 127,1,false⟩,⟨8,oM 28 1,0,0,false⟩,⟨9,oO 29 (.copy 1 (tT 27) (tT 28)),511,1,false⟩,⟨10,oM 4 29,1023,1,false⟩]) (sQ (.region [oM 30 1,oM 31 4,oO 32 (.slc 1 (tT 30) (some (tT 31)) none none),oM 1 32]) (sQ (.region [oM 33 0,
 oO 34 (.nilck (tT 33)),oO 35 (.faddr 161 (tT 34)),oO 36 (.load false 1 (tT 35)),oM 37 4,oO 38 (.bin .add .num (tT 36) (tT 37)),oO 39 (.nilck (tT 33)),oO 40 (.faddr 161 (tT 39)),⟨none,.store 1 (tT 40) (tT 38),
 none⟩]) (sQ (.region [oM 41 0,oO 42 (.nilck (tT 41)),oO 43 (.faddr 161 (tT 42)),oO 44 (.load false 1 (tT 43)),oO 45 (.bin .eql .num (tT 44) (kI 136))]) (.cond (tT 45) (sQ (.draw [⟨0,oM 46 0,0,1,false⟩,
 ⟨1,oO 47 (.nilck (tT 46)),1,1,false⟩,⟨2,oO 48 (.faddr 0 (tT 47)),3,1,false⟩,⟨3,oM 49 0,0,1,false⟩,⟨4,oO 50 (.nilck (tT 49)),8,1,false⟩,⟨5,oO 51 (.faddr 25 (tT 50)),24,1,false⟩,⟨6,oO 52 (.slcA 136 (tT 51) none none),
 56,1,false⟩,⟨7,oO 53 (kC 183 [(tT 48),(tT 52)]),127,1,false⟩]) (.region [oM 54 0,oO 55 (.nilck (tT 54)),oO 56 (.faddr 161 (tT 55)),⟨none,.store 1 (tT 56) (kI 0),none⟩])) .skip)))))))))))
theorem ok157 : FnOk Tryz.prog 157 57 ir157 [] := Z7 mixed Tryz.func157 (by kernel_rfl) Tryz.ntmps157 (by kernel_rfl) (by kernel_rfl)
def ir158 : ACode := (sQ (.region [oO 2 (.alloc [(.int .u8 0),(.int .u8 0),(.int .u8 0),(.int .u8 0),(.int .u8 0),(.int .u8 0),(.int .u8 0),(.int .u8 0),(.int .u8 0),(.int .u8 0),(.int .u8 0),(.int .u8 0),
 (.int .u8 0),(.int .u8 0),(.int .u8 0),(.int .u8 0),(.int .u8 0),(.int .u8 0),(.int .u8 0),(.int .u8 0),(.int .u8 0),(.int .u8 0),(.int .u8 0),(.int .u8 0),(.int .u8 0),(.int .u8 0),(.int .u8 0),(.int .u8 0),
 (.int .u8 0),(.int .u8 0),(.int .u8 0),(.int .u8 0)])]) (sQ (sQ (.region [oM 7 0,oO 8 (.bin .eql .ptr (tT 7) (.const (.pointer none)))]) (.cond (tT 8) (sQ (.region [oO 9 (.build [(.int .u8 0),(.int .u8 0),
 (.int .u8 0),(.int .u8 0),(.int .u8 0),(.int .u8 0),(.int .u8 0),(.int .u8 0),(.int .u8 0),(.int .u8 0),(.int .u8 0),(.int .u8 0),(.int .u8 0),(.int .u8 0),(.int .u8 0),(.int .u8 0),(.int .u8 0),(.int .u8 0),
 (.int .u8 0),(.int .u8 0),(.int .u8 0),(.int .u8 0),(.int .u8 0),(.int .u8 0),(.int .u8 0),(.int .u8 0),(.int .u8 0),(.int .u8 0),(.int .u8 0),(.int .u8 0),(.int .u8 0),(.int .u8 0)] []),⟨none,.store 32 (tT 2) (tT 9),
 none⟩]) .ret) .skip)) (sQ (.region [oM 10 0,oO 11 (.nilck (tT 10)),oO 12 (.faddr 0 (tT 11)),oO 13 (.load true 25 (tT 12)),oO 3 (.alloc [(.int .u64 0),(.int .u64 0),(.int .u64 0),(.int .u64 0),(.int .u64 0),
 (.int .u64 0),(.int .u64 0),(.int .u64 0),(.int .u64 0),(.int .u64 0),(.int .u64 0),(.int .u64 0),(.int .u64 0),(.int .u64 0),(.int .u64 0),(.int .u64 0),(.int .u64 0),(.int .u64 0),(.int .u64 0),(.int .u64 0),
 (.int .u64 0),(.int .u64 0),(.int .u64 0),(.int .u64 0),(.int .u64 0)]),⟨none,.store 25 (tT 3) (tT 13),none⟩]) (sQ (.region [oO 4 (.alloc [(.int .u8 0),(.int .u8 0),(.int .u8 0),(.int .u8 0),(.int .u8 0),
 (.int .u8 0),(.int .u8 0),(.int .u8 0),(.int .u8 0),(.int .u8 0),(.int .u8 0),(.int .u8 0),(.int .u8 0),(.int .u8 0),(.int .u8 0),(.int .u8 0),(.int .u8 0),(.int .u8 0),(.int .u8 0),(.int .u8 0),(.int .u8 0),
 (.int .u8 0),(.int .u8 0),(.int .u8 0),(.int .u8 0),(.int .u8 0),(.int .u8 0),(.int .u8 0),(.int .u8 0),(.int .u8 0),(.int .u8 0),(.int .u8 0),(.int .u8 0),(.int .u8 0),(.int .u8 0),(.int .u8 0),(.int .u8 0),
 (.int .u8 0),(.int .u8 0),(.int .u8 0),(.int .u8 0),(.int .u8 0),(.int .u8 0),(.int .u8 0),(.int .u8 0),(.int .u8 0),(.int .u8 0),(.int .u8 0),(.int .u8 0),(.int .u8 0),(.int .u8 0),(.int .u8 0),(.int .u8 0),
 (.int .u8 0),(.int .u8 0),(.int .u8 0),(.int .u8 0),(.int .u8 0),(.int .u8 0),(.int .u8 0),(.int .u8 0),(.int .u8 0),(.int .u8 0),(.int .u8 0),(.int .u8 0),(.int .u8 0),(.int .u8 0),(.int .u8 0),(.int .u8 0),
 (.int .u8 0),(.int .u8 0),(.int .u8 0),(.int .u8 0),(.int .u8 0),(.int .u8 0),(.int .u8 0),(.int .u8 0),(.int .u8 0),(.int .u8 0),(.int .u8 0),(.int .u8 0),(.int .u8 0),(.int .u8 0),(.int .u8 0),(.int .u8 0),
 (.int .u8 0),(.int .u8 0),(.int .u8 0),(.int .u8 0),(.int .u8 0),(.int .u8 0),(.int .u8 0),(.int .u8 0),(.int .u8 0),(.int .u8 0),(.int .u8 0),(.int .u8 0),(.int .u8 0),(.int .u8 0),(.int .u8 0),(.int .u8 0),
 (.int .u8 0),(.int .u8 0),(.int .u8 0),(.int .u8 0),(.int .u8 0),(.int .u8 0),(.int .u8 0),(.int .u8 0),(.int .u8 0),(.int .u8 0),(.int .u8 0),(.int .u8 0),(.int .u8 0),(.int .u8 0),(.int .u8 0),(.int .u8 0),
 (.int .u8 0),(.int .u8 0),(.int .u8 0),(.int .u8 0),(.int .u8 0),(.int .u8 0),(.int .u8 0),(.int .u8 0),(.int .u8 0),(.int .u8 0),(.int .u8 0),(.int .u8 0),(.int .u8 0),(.int .u8 0),(.int .u8 0),(.int .u8 0),
 (.int .u8 0),(.int .u8 0),(.int .u8 0)])]) (sQ (.draw [⟨0,oO 14 (.slcA 136 (tT 4) none none),0,0,false⟩,⟨1,oM 15 0,0,0,false⟩,⟨2,oO 16 (.nilck (tT 15)),2,0,false⟩,⟨3,oO 17 (.faddr 25 (tT 16)),6,0,false⟩,
 ⟨4,oM 18 0,0,1,false⟩,⟨5,oO 19 (.nilck (tT 18)),16,1,false⟩,⟨6,oO 20 (.faddr 161 (tT 19)),48,1,false⟩,⟨7,oO 21 (.load false 1 (tT 20)),112,1,false⟩,⟨8,oO 22 (.slcA 136 (tT 17) none (some (tT 21))),254,
 1,false⟩,⟨9,oO 23 (.copy 1 (tT 14) (tT 22)),511,1,false⟩]) (sQ (.region [oM 24 0,oO 25 (.nilck (tT 24)),oO 26 (.faddr 161 (tT 25)),oO 27 (.load false 1 (tT 26)),oO 28 (.iaddrA 136 1 (tT 4) (tT 27)),⟨none,
 .store 1 (tT 28) (.const (.int .u8 6)),none⟩]) (sQ (.region [oO 29 (.iaddrA 136 1 (tT 4) (kI 135)),oO 30 (.load false 1 (tT 29)),oO 31 (.bin .xor .num (tT 30) (.const (.int .u8 128))),oO 32 (.iaddrA 136 1 (tT 4) (kI 135)),
 ⟨none,.store 1 (tT 32) (tT 31),none⟩]) (sQ (.region [oO 33 (.slcA 136 (tT 4) none none),oO 34 (kC 183 [(tT 3),(tT 33)])]) (sQ (.region [oO 5 (.alloc [(.int .u8 0),(.int .u8 0),(.int .u8 0),(.int .u8 0),
 (.int .u8 0),(.int .u8 0),(.int .u8 0),(.int .u8 0),(.int .u8 0),(.int .u8 0),(.int .u8 0),(.int .u8 0),(.int .u8 0),(.int .u8 0),(.int .u8 0),(.int .u8 0),(.int .u8 0),(.int .u8 0),(.int .u8 0),(.int .u8 0),
 (.int .u8 0),(.int .u8 0),(.int .u8 0),(.int .u8 0),(.int .u8 0),(.int .u8 0),(.int .u8 0),(.int .u8 0),(.int .u8 0),(.int .u8 0),(.int .u8 0),(.int .u8 0)])]) (sQ (sQ (.region [oO 35 (.mov (kI 0))]) (.block 0 (.loop (sQ (.region [oO 36 (.bin .lss .num (tT 35) (kI 32))]) (sQ (.cond (tT 36) .skip (.exit 0)) (sQ (.block 1 (sQ (.region [oM 37 35,
 oM 6 37]) (.region [oM 38 6,oM 39 6,oO 40 (.bin .quo .num (tT 39) (kI 8)),oO 41 (.iaddrA 25 1 (tT 3) (tT 40)),oO 42 (.load false 1 (tT 41)),oM 43 6,oO 44 (.bin .rem .num (tT 43) (kI 8)),oO 45 (.bin .mul .num (kI 8) (tT 44)),
 oO 46 (.bin .shr .num (tT 42) (tT 45)),oO 47 (.conv .u8 (tT 46)),oO 48 (.iaddrA 32 1 (tT 5) (tT 38)),⟨none,.store 1 (tT 48) (tT 47),none⟩]))) (.region [oO 49 (.bin .add .num (tT 35) (kI 1)),oM 35 49]))))))) (sQ (.region [oO 50 (.load true 32 (tT 5)),
 ⟨none,.store 32 (tT 2) (tT 50),none⟩]) .ret)))))))))))
theorem ok158 : FnOk Tryz.prog 158 51 ir158 [.cell 2 true 32] := Z7 mixed Tryz.func158 (by kernel_rfl) Tryz.ntmps158 (by kernel_rfl) (by kernel_rfl)
def ir159 : ACode := (sQ (.region [oO 4 (.box (tT 0)),oO 6 (.box (tT 2)),oO 7 (.box (tT 3)),oO 8 (.alloc [nS]),oO 9 (.mov kF)]) (sQ (.region [oO 10 (.mov (.const (.int .u8 2)))]) (sQ (sQ (.region [oM 17 1,
 oO 18 (.len (tT 17)),oO 19 (.mov (kI 0))]) (.block 0 (.loop (sQ (.region [oO 20 (.bin .lss .num (tT 19) (tT 18))]) (sQ (.cond (tT 20) .skip (.exit 0)) (sQ (.block 1 (sQ (.region [oO 21 (.iaddr 6 (tT 17) (tT 19)),
 oO 22 (.load true 6 (tT 21)),oO 12 (.alloc [(.bool false),(.bool false),(.bool false),(.int .i64 0),nS,nS]),⟨none,.store 6 (tT 12) (tT 22),none⟩]) (.draw [⟨0,oM 23 10,0,0,false⟩,⟨1,oO 24 (.load true 6 (tT 12)),
 0,0,false⟩,⟨2,oO 25 (.load true 6 (tT 4)),0,0,false⟩,⟨3,oO 26 (.load true 1 (tT 7)),0,0,false⟩,⟨4,oO 27 (.load true 1 (tT 7)),0,0,false⟩,⟨5,oO 28 (.load true 1 (tT 6)),0,0,false⟩,⟨6,oO 29 (kC 74 [(tT 27),
 (tT 28)]),48,0,false⟩,⟨7,oO 30 (kC 184 [(tT 24),(tT 25),(tT 26),(tT 29)]),126,1,false⟩,⟨8,oO 31 (.mn (tT 23) (tT 30)),255,1,false⟩,⟨9,oM 10 31,511,1,false⟩]))) (.region [oO 32 (.bin .add .num (tT 19) (kI 1)),
 oM 19 32]))))))) (sQ (sQ (.region [oM 33 10,oO 34 (.bin .eql .num (tT 33) (.const (.int .u8 2)))]) (.cond (tT 34) (sQ (.region [oO 35 (.load true 1 (tT 7)),⟨none,.store 1 (tT 8) (tT 35),none⟩,oO 9 (.mov kT)]) .ret) .skip)) (sQ (sQ (.region [oM 36 10,
 oO 37 (.bin .eql .num (tT 36) (.const (.int .u8 0)))]) (.cond (tT 37) (sQ (.region [oO 38 (.build [nS] []),⟨none,.store 1 (tT 8) (tT 38),none⟩,oO 9 (.mov kF)]) .ret) .skip)) (sQ (.region [oO 40 (.load true 1 (tT 6)),
 oO 41 (kC 185 [(tT 40)]),oM 39 41,oO 42 (.extract (tT 39) 0),oO 43 (.extract (tT 39) 1),oM 13 42,oM 14 43]) (sQ (sQ (.region [oM 44 14,oO 45 (.una .not (tT 44))]) (.cond (tT 45) (sQ (.region [oO 46 (.build [nS] []),
 ⟨none,.store 1 (tT 8) (tT 46),none⟩,oO 9 (.mov kF)]) .ret) .skip)) (sQ (sQ (.draw [⟨0,oO 48 (.load true 6 (tT 4)),0,0,false⟩,⟨1,oM 49 1,0,0,false⟩,⟨2,oO 50 (.load true 1 (tT 6)),0,0,false⟩,⟨3,oM 51 13,
 0,0,false⟩,⟨4,oO 52 (kC 34 [(tT 50),(tT 51)]),12,0,false⟩,⟨5,oO 53 (.load true 1 (tT 7)),0,0,false⟩,⟨6,oO 54 (kC 159 [(tT 48),(tT 49),(tT 52),(tT 53)]),63,1,false⟩,⟨7,oM 47 54,127,1,false⟩,⟨8,oO 55 (.extract (tT 47) 0),
 255,1,false⟩,⟨9,oO 56 (.extract (tT 47) 1),255,0,false⟩,⟨10,oO 15 (.alloc [nS]),0,0,false⟩,⟨11,⟨none,.store 1 (tT 15) (tT 55),none⟩,1535,1,false⟩,⟨12,oM 16 56,4095,1,false⟩]) (sQ (.region [oM 57 16]) (.cond (tT 57) (sQ (.region [oO 58 (.load true 1 (tT 15)),
 ⟨none,.store 1 (tT 8) (tT 58),none⟩,oO 9 (.mov kT)]) .ret) .skip))) (sQ (.draw [⟨0,oO 59 (.load true 6 (tT 4)),0,0,false⟩,⟨1,oM 60 1,0,0,false⟩,⟨2,oO 61 (.load true 1 (tT 6)),0,0,false⟩,⟨3,oM 62 13,0,0,
 false⟩,⟨4,oO 63 (kC 34 [(tT 61),(tT 62)]),12,0,false⟩,⟨5,oO 64 (.load true 1 (tT 7)),0,0,false⟩,⟨6,oM 65 13,0,0,false⟩,⟨7,oO 66 (kC 15 [(tT 64),(tT 65)]),124,0,false⟩,⟨8,oO 67 (kC 159 [(tT 59),(tT 60),
 (tT 63),(tT 66)]),255,1,false⟩,⟨9,oO 68 (.extract (tT 67) 0),511,1,false⟩,⟨10,oO 69 (.extract (tT 67) 1),511,1,false⟩,⟨11,⟨none,.store 1 (tT 8) (tT 68),none⟩,2047,1,false⟩,⟨12,oM 9 69,4095,1,false⟩]) .ret)))))))))
theorem ok159 : FnOk Tryz.prog 159 70 ir159 [.cell 8 true 1, .tmp 9] := Z7 mixed Tryz.func159 (by kernel_rfl) Tryz.ntmps159 (by kernel_rfl) (by kernel_rfl)
def ir160 : ACode := (sQ (.region [oO 2 (.box (tT 0)),oO 4 (.alloc [nS])]) (sQ (.region [oO 5 (.alloc [nS])]) (sQ (sQ (.region [oM 10 1,oO 11 (.len (tT 10)),oO 12 (.mov (kI 0))]) (.block 0 (.loop (sQ (.region [oO 13 (.bin .lss .num (tT 12) (tT 11))]) (sQ (.cond (tT 13) .skip (.exit 0)) (sQ (.block 1 (sQ (.region [oO 14 (.iaddr 6 (tT 10) (tT 12)),
 oO 15 (.load true 6 (tT 14)),oO 7 (.alloc [(.bool false),(.bool false),(.bool false),(.int .i64 0),nS,nS]),⟨none,.store 6 (tT 7) (tT 15),none⟩]) (sQ (.draw [⟨0,oO 16 (.faddr 4 (tT 7)),0,0,false⟩,⟨1,oO 17 (.load false 1 (tT 16)),
 1,0,false⟩,⟨2,oO 18 (kC 77 [(tT 17)]),3,0,false⟩,⟨3,oO 19 (.faddr 5 (tT 7)),0,0,false⟩,⟨4,oO 20 (.load false 1 (tT 19)),8,0,false⟩,⟨5,oO 21 (kC 77 [(tT 20)]),31,1,false⟩,⟨6,oO 22 (kC 74 [(tT 18),(tT 21)]),
 63,1,false⟩,⟨7,oO 8 (.alloc [nS]),0,0,false⟩,⟨8,⟨none,.store 1 (tT 8) (tT 22),none⟩,255,1,false⟩]) (sQ (.region [oO 23 (.load true 1 (tT 5)),oO 24 (.load true 1 (tT 8)),oO 25 (kC 74 [(tT 23),(tT 24)]),
 ⟨none,.store 1 (tT 5) (tT 25),none⟩]) (sQ (.region [oO 26 (.load true 1 (tT 8)),oO 27 (kC 85 [(tT 26)])]) (.block 2 (.range (tT 27) [28] [(9,(tT 28))] (.block 3 (sQ (.region [oO 29 (.faddr 0 (tT 7)),oO 30 (.load false 1 (tT 29))]) (.cond (tT 30) (.draw [⟨0,
 oO 31 (.load true 1 (tT 5)),0,0,false⟩,⟨1,oO 32 (.faddr 1 (tT 2)),0,0,false⟩,⟨2,oO 33 (.load false 1 (tT 32)),2,0,false⟩,⟨3,oM 34 9,0,0,false⟩,⟨4,oO 35 (kC 139 [(tT 33),(tT 34)]),14,0,false⟩,⟨5,oO 36 (kC 74 [(tT 31),
 (tT 35)]),31,1,false⟩,⟨6,⟨none,.store 1 (tT 5) (tT 36),none⟩,63,1,false⟩]) .skip)))))))))) (.region [oO 37 (.bin .add .num (tT 12) (kI 1)),oM 12 37]))))))) (sQ (.region [oO 38 (.load true 1 (tT 5)),⟨none,
 .store 1 (tT 4) (tT 38),none⟩]) .ret))))
theorem ok160 : FnOk Tryz.prog 160 39 ir160 [.cell 4 true 1] := Z7 mixed Tryz.func160 (by kernel_rfl) Tryz.ntmps160 (by kernel_rfl) (by kernel_rfl)
def ir161 : ACode := (sQ (.region [oO 4 (.mov kF)]) (sQ (.region [oM 5 0,oM 6 1,oO 7 (kC 186 [(tT 5),(tT 6)]),oO 8 (.bin .geq .num (tT 7) (kI 0)),oM 4 8]) .ret))
theorem ok161 : FnOk Tryz.prog 161 9 ir161 [.tmp 4] := Z7 mixed Tryz.func161 (by kernel_rfl) Tryz.ntmps161 (by kernel_rfl) (by kernel_rfl)
def ir162 : ACode := (sQ (.region [oO 2 (.box (tT 0)),oO 3 (.mov kF)]) (sQ (.region [oO 4 (.load false 1 (tT 1)),oO 5 (.load true 2 (tT 2)),oO 6 (.call (tT 4) [(tT 5)]),oO 7 (.una .not (tT 6)),oM 3 7]) .ret))
theorem ok162 : FnOk Tryz.prog 162 8 ir162 [.tmp 3] := Z7 mixed Tryz.func162 (by kernel_rfl) Tryz.ntmps162 (by kernel_rfl) (by kernel_rfl)
def ir163 : ACode := (sQ (.region [oO 2 (.box (tT 0)),oO 3 (.mov kF)]) (sQ (.region [oO 4 (.load false 1 (tT 1)),oO 5 (.load true 2 (tT 2)),oO 6 (.call (tT 4) [(tT 5)]),oO 7 (.una .not (tT 6)),oM 3 7]) .ret))
theorem ok163 : FnOk Tryz.prog 163 8 ir163 [.tmp 3] := Z7 mixed Tryz.func163 (by kernel_rfl) Tryz.ntmps163 (by kernel_rfl) (by kernel_rfl)
def ir164 : ACode := (sQ (.region [oO 4 (.mov (kI 0))]) (sQ (sQ (.region [oM 6 0,oO 7 (.len (tT 6)),oO 8 (.mov (kI 0))]) (.block 0 (.loop (sQ (.region [oO 9 (.bin .lss .num (tT 8) (tT 7))]) (sQ (.cond (tT 9) .skip (.exit 0)) (sQ (.block 1 (sQ (.region [oM 10 8,
 oM 5 10]) (sQ (.region [oM 11 1,oM 12 0,oM 13 5,oO 14 (.iaddr 5 (tT 12) (tT 13)),oO 15 (.load true 5 (tT 14)),oO 16 (.call (tT 11) [(tT 15)])]) (.cond (tT 16) (sQ (.region [oM 17 5,oM 4 17]) .ret) .skip)))) (.region [oO 18 (.bin .add .num (tT 8) (kI 1)),
 oM 8 18]))))))) (sQ (.region [oO 4 (.mov (.const (.int .i64 (-1))))]) .ret)))
theorem ok164 : FnOk Tryz.prog 164 19 ir164 [.tmp 4] := Z7 mixed Tryz.func164 (by kernel_rfl) Tryz.ntmps164 (by kernel_rfl) (by kernel_rfl)
def ir165 : ACode := (sQ (.region [oO 4 (.alloc [nS])]) (sQ (sQ (.region [oM 5 0,oM 6 1,oO 7 (kC 149 [(tT 5),(tT 6)]),oO 8 (.una .not (tT 7))]) (.cond (tT 8) (sQ (.region [oO 9 (.build [nS] []),⟨none,.store 1 (tT 4) (tT 9),
 none⟩]) .ret) .skip)) (sQ (.region [oM 10 0,oO 11 (.nilck (tT 10)),oO 12 (.faddr 2 (tT 11)),oO 13 (.load false 1 (tT 12)),oM 14 1,oO 15 (.iaddr 1 (tT 13) (tT 14)),oO 16 (.load true 1 (tT 15)),⟨none,.store 1 (tT 4) (tT 16),
 none⟩]) .ret)))
theorem ok165 : FnOk Tryz.prog 165 17 ir165 [.cell 4 true 1] := Z7 mixed Tryz.func165 (by kernel_rfl) Tryz.ntmps165 (by kernel_rfl) (by kernel_rfl)
set_option maxRecDepth 100000
def ir180 : ACode := (sQ (.region [oO 2 (.mov (kI 0))]) (sQ (sQ (.region [oM 3 0,oO 4 (.bin .geq .num (tT 3) (.const (.int .u64 4294967296)))]) (.cond (tT 4) (sQ (.region [oM 5 0,oO 6 (.bin .shr .num (tT 5) (.const (.int .u64 32))),
 oM 0 6]) (.region [oO 2 (.mov (kI 32))])) .skip)) (sQ (sQ (.region [oM 7 0,oO 8 (.bin .geq .num (tT 7) (.const (.int .u64 65536)))]) (.cond (tT 8) (sQ (.region [oM 9 0,oO 10 (.bin .shr .num (tT 9) (.const (.int .u64 16))),
 oM 0 10]) (.region [oM 11 2,oO 12 (.bin .add .num (tT 11) (kI 16)),oM 2 12])) .skip)) (sQ (sQ (.region [oM 13 0,oO 14 (.bin .geq .num (tT 13) (.const (.int .u64 256)))]) (.cond (tT 14) (sQ (.region [oM 15 0,
 oO 16 (.bin .shr .num (tT 15) (.const (.int .u64 8))),oM 0 16]) (.region [oM 17 2,oO 18 (.bin .add .num (tT 17) (kI 8)),oM 2 18])) .skip)) (sQ (.region [oM 19 2,oM 20 0,oO 21 (.conv .u8 (tT 20)),⟨(some 22),
 .indexS (.const (.string ⟨#[0,1,2,2,3,3,3,3,4,4,4,4,4,4,4,4,5,5,5,5,5,5,5,5,5,5,5,5,5,5,5,5,6,6,6,6,6,6,6,6,6,6,6,6,6,6,6,6,6,6,6,6,6,6,6,6,6,6,6,6,6,6,6,6,7,7,7,7,7,7,7,7,7,7,7,7,7,7,7,7,7,7,7,7,7,7,7,
 7,7,7,7,7,7,7,7,7,7,7,7,7,7,7,7,7,7,7,7,7,7,7,7,7,7,7,7,7,7,7,7,7,7,7,7,7,7,7,7,7,8,8,8,8,8,8,8,8,8,8,8,8,8,8,8,8,8,8,8,8,8,8,8,8,8,8,8,8,8,8,8,8,8,8,8,8,8,8,8,8,8,8,8,8,8,8,8,8,8,8,8,8,8,8,8,8,8,8,8,8,
 8,8,8,8,8,8,8,8,8,8,8,8,8,8,8,8,8,8,8,8,8,8,8,8,8,8,8,8,8,8,8,8,8,8,8,8,8,8,8,8,8,8,8,8,8,8,8,8,8,8,8,8,8,8,8,8,8,8,8,8,8,8,8,8,8,8,8,8]⟩)) (tT 21),none⟩,oO 23 (.conv .i64 (tT 22)),oO 24 (.bin .add .num (tT 19) (tT 23)),
 oM 2 24]) .ret)))))
theorem ok180 : FnOk Tryz.prog 180 25 ir180 [.tmp 2] := Z7 mixed Tryz.func180 (by kernel_rfl) Tryz.ntmps180 (by kernel_rfl) (by kernel_rfl)
def ir181 : ACode := (sQ (.region [oO 3 (.box (tT 1)),oO 4 (.mov (kI 0))]) (sQ (sQ (.region [oM 6 0,oO 7 (.len (tT 6)),oO 8 (.mov (kI 0))]) (.block 0 (.loop (sQ (.region [oO 9 (.bin .lss .num (tT 8) (tT 7))]) (sQ (.cond (tT 9) .skip (.exit 0)) (sQ (.block 1 (sQ (.region [oM 10 8,
 oM 5 10]) (sQ (.draw [⟨0,oO 11 (.load true 2 (tT 3)),0,0,false⟩,⟨1,oM 12 0,0,0,false⟩,⟨2,oM 13 5,0,0,false⟩,⟨3,oO 14 (.iaddr 2 (tT 12) (tT 13)),6,0,false⟩,⟨4,oO 15 (.load true 2 (tT 14)),14,0,false⟩,⟨5,
 oO 16 (.bin .eql (.cells [0,0]) (tT 11) (tT 15)),31,1,false⟩]) (.cond (tT 16) (sQ (.region [oM 17 5,oM 4 17]) .ret) .skip)))) (.region [oO 18 (.bin .add .num (tT 8) (kI 1)),oM 8 18]))))))) (sQ (.region [oO 4 (.mov (.const (.int .i64 (-1))))]) .ret)))
theorem ok181 : FnOk Tryz.prog 181 19 ir181 [.tmp 4] := Z7 mixed Tryz.func181 (by kernel_rfl) Tryz.ntmps181 (by kernel_rfl) (by kernel_rfl)
def ir182 : ACode := (sQ (.region [oO 2 (.mov (.const nS))]) (sQ (sQ (.region [oM 3 0,oO 4 (.isnil false (tT 3))]) (.cond (tT 4) (sQ (.region [oO 2 (.mov (.const nS))]) .ret) .skip)) (sQ (.region [oO 5 (.bslice [(.int .i64 0),
 (.int .i64 0)] 0 []),oM 6 0,oO 7 (.append [(.int .i64 0),(.int .i64 0)] 16 (tT 5) (tT 6)),oM 2 7]) .ret)))
theorem ok182 : FnOk Tryz.prog 182 8 ir182 [.tmp 2] := Z7 mixed Tryz.func182 (by kernel_rfl) Tryz.ntmps182 (by kernel_rfl) (by kernel_rfl)
def ir183 : ACode := (sQ (sQ (.region [oO 7 (.mov (kI 0))]) (.block 0 (.loop (sQ (.region [oO 8 (.bin .lss .num (tT 7) (kI 17))]) (sQ (.cond (tT 8) .skip (.exit 0)) (sQ (.block 1 (sQ (.region [oM 9 7,oM 4 9]) (sQ (.region [oO 5 (.mov (.const (.int .u64 0)))]) (sQ (sQ (.region [oO 6 (.mov (kI 7))]) (.block 2 (.loop (sQ (sQ (.region [oM 10 6,
 oO 11 (.bin .geq .num (tT 10) (kI 0))]) (.cond (tT 11) .skip (.exit 2))) (sQ (.block 3 (.region [oM 14 5,oO 15 (.bin .shl .num (tT 14) (.const (.int .u64 8))),oM 16 1,oM 17 4,oO 18 (.bin .mul .num (kI 8) (tT 17)),
 oM 19 6,oO 20 (.bin .add .num (tT 18) (tT 19)),oO 21 (.iaddr 1 (tT 16) (tT 20)),oO 22 (.load false 1 (tT 21)),oO 23 (.conv .u64 (tT 22)),oO 24 (.bin .or .num (tT 15) (tT 23)),oM 5 24])) (.region [oM 12 6,
 oO 13 (.bin .sub .num (tT 12) (kI 1)),oM 6 13])))))) (.draw [⟨0,oM 25 0,0,1,false⟩,⟨1,oM 26 4,0,1,false⟩,⟨2,oO 27 (.nilck (tT 25)),1,1,false⟩,⟨3,oO 28 (.iaddrA 25 1 (tT 27) (tT 26)),7,1,false⟩,⟨4,oO 29 (.load false 1 (tT 28)),
 15,1,false⟩,⟨5,oM 30 5,0,0,false⟩,⟨6,oO 31 (.bin .xor .num (tT 29) (tT 30)),63,1,false⟩,⟨7,oO 32 (.nilck (tT 25)),1,0,false⟩,⟨8,oO 33 (.iaddrA 25 1 (tT 32) (tT 26)),255,1,false⟩,⟨9,⟨none,.store 1 (tT 33) (tT 31),
 none⟩,511,1,false⟩]))))) (.region [oO 34 (.bin .add .num (tT 7) (kI 1)),oM 7 34]))))))) (.region [oM 35 0,oO 36 (kC 194 [(tT 35)])]))
theorem ok183 : FnOk Tryz.prog 183 37 ir183 [] := Z7 mixed Tryz.func183 (by kernel_rfl) Tryz.ntmps183 (by kernel_rfl) (by kernel_rfl)
def ir184 : ACode := (sQ (.region [oO 4 (.box (tT 0)),oO 5 (.box (tT 1)),oO 6 (.box (tT 2)),oO 7 (.box (tT 3)),oO 8 (.mov (.const (.int .u8 0)))]) (sQ (.region [oO 11 (.load true 6 (tT 4)),oO 12 (.load true 6 (tT 5)),
 oO 13 (.load true 1 (tT 6)),oO 14 (.load true 1 (tT 7)),oO 15 (kC 195 [(tT 11),(tT 12),(tT 13),(tT 14)]),oM 10 15,oO 16 (.extract (tT 10) 0),oO 17 (.extract (tT 10) 1),⟨none,.store 1 (tT 6) (tT 16),none⟩,
 ⟨none,.store 1 (tT 7) (tT 17),none⟩]) (sQ (.region [oO 18 (.faddr 5 (tT 4)),oO 19 (.load false 1 (tT 18)),oO 20 (.load true 1 (tT 6)),oO 21 (.load true 1 (tT 7)),oO 22 (kC 196 [(tT 19),(tT 20),(tT 21)]),
 oO 23 (.bin .sub .num (.const (.int .u8 2)) (tT 22)),oM 9 23]) (sQ (sQ (.region [oO 24 (.faddr 2 (tT 4)),oO 25 (.load false 1 (tT 24))]) (.cond (tT 25) (.region [oM 26 9,oO 27 (.faddr 4 (tT 4)),oO 28 (.load false 1 (tT 27)),
 oO 29 (.load true 1 (tT 6)),oO 30 (.load true 1 (tT 7)),oO 31 (kC 196 [(tT 28),(tT 29),(tT 30)]),oO 32 (.mn (tT 26) (tT 31)),oM 9 32]) .skip)) (sQ (.region [oM 33 9,oM 8 33]) .ret)))))
theorem ok184 : FnOk Tryz.prog 184 34 ir184 [.tmp 8] := Z7 mixed Tryz.func184 (by kernel_rfl) Tryz.ntmps184 (by kernel_rfl) (by kernel_rfl)
def ir185 : ACode := (sQ (.region [oO 1 (.box (tT 0)),oO 2 (.mov (kI 0)),oO 3 (.mov kF)]) (sQ (sQ (.region [oO 6 (.faddr 0 (tT 1)),oO 7 (.load false 1 (tT 6)),oO 8 (.len (tT 7)),oO 9 (.mov (kI 0))]) (.block 0 (.loop (sQ (.region [oO 10 (.bin .lss .num (tT 9) (tT 8))]) (sQ (.cond (tT 10) .skip (.exit 0)) (sQ (.block 1 (sQ (.region [oM 11 9,
 oO 12 (.iaddr 1 (tT 7) (tT 9)),oO 13 (.load false 1 (tT 12)),oM 4 11,oM 5 13]) (sQ (.region [oM 14 5,oO 15 (.bin .neq .num (tT 14) (.const (.int .u64 0)))]) (.cond (tT 15) (sQ (.region [oM 16 4,oO 17 (.bin .mul .num (kI 64) (tT 16)),
 oM 18 5,oO 19 (kC 129 [(tT 18)]),oO 20 (.bin .add .num (tT 17) (tT 19)),oM 2 20,oO 3 (.mov kT)]) .ret) .skip)))) (.region [oO 21 (.bin .add .num (tT 9) (kI 1)),oM 9 21]))))))) (sQ (.region [oO 2 (.mov (kI 0)),
 oO 3 (.mov kF)]) .ret)))
theorem ok185 : FnOk Tryz.prog 185 22 ir185 [.tmp 2, .tmp 3] := Z7 mixed Tryz.func185 (by kernel_rfl) Tryz.ntmps185 (by kernel_rfl) (by kernel_rfl)
def ir186 : ACode := (sQ (.region [oO 4 (.mov (kI 0))]) (sQ (sQ (.region [oM 6 0,oO 7 (.len (tT 6)),oO 8 (.mov (kI 0))]) (.block 0 (.loop (sQ (.region [oO 9 (.bin .lss .num (tT 8) (tT 7))]) (sQ (.cond (tT 9) .skip (.exit 0)) (sQ (.block 1 (sQ (.region [oM 10 8,
 oM 5 10]) (sQ (.region [oM 11 1,oM 12 0,oM 13 5,oO 14 (.iaddr 2 (tT 12) (tT 13)),oO 15 (.load true 2 (tT 14)),oO 16 (.call (tT 11) [(tT 15)])]) (.cond (tT 16) (sQ (.region [oM 17 5,oM 4 17]) .ret) .skip)))) (.region [oO 18 (.bin .add .num (tT 8) (kI 1)),
 oM 8 18]))))))) (sQ (.region [oO 4 (.mov (.const (.int .i64 (-1))))]) .ret)))
theorem ok186 : FnOk Tryz.prog 186 19 ir186 [.tmp 4] := Z7 mixed Tryz.func186 (by kernel_rfl) Tryz.ntmps186 (by kernel_rfl) (by kernel_rfl)
def ir194 : ACode := (sQ (.region [oO 12 (.load true 24 (.global 1)),oO 13 (.mov (kI 0))]) (.block 0 (.loop (sQ (.region [oO 14 (.bin .lss .num (tT 13) (kI 24))]) (sQ (.cond (tT 14) .skip (.exit 0)) (sQ (.block 1 (sQ (.region [oO 15 (.indexA false 24 1 (tT 12) (tT 13)),
 oM 3 15]) (sQ (.region [oO 4 (.alloc [(.int .u64 0),(.int .u64 0),(.int .u64 0),(.int .u64 0),(.int .u64 0)])]) (sQ (sQ (.region [oO 16 (.mov (kI 0))]) (.block 2 (.loop (sQ (.region [oO 17 (.bin .lss .num (tT 16) (kI 5))]) (sQ (.cond (tT 17) .skip (.exit 2)) (sQ (.block 3 (sQ (.region [oM 18 16,
 oM 5 18]) (.draw [⟨0,oM 19 5,0,0,false⟩,⟨1,oM 20 0,0,0,false⟩,⟨2,oM 21 5,0,0,false⟩,⟨3,oO 22 (.nilck (tT 20)),2,0,false⟩,⟨4,oO 23 (.iaddrA 25 1 (tT 22) (tT 21)),14,0,false⟩,⟨5,oO 24 (.load false 1 (tT 23)),
 30,0,false⟩,⟨6,oM 25 0,0,0,false⟩,⟨7,oM 26 5,0,0,false⟩,⟨8,oO 27 (.bin .add .num (tT 26) (kI 5)),128,0,false⟩,⟨9,oO 28 (.nilck (tT 25)),64,0,false⟩,⟨10,oO 29 (.iaddrA 25 1 (tT 28) (tT 27)),960,0,false⟩,
 ⟨11,oO 30 (.load false 1 (tT 29)),1984,0,false⟩,⟨12,oO 31 (.bin .xor .num (tT 24) (tT 30)),4094,0,false⟩,⟨13,oM 32 0,0,0,false⟩,⟨14,oM 33 5,0,0,false⟩,⟨15,oO 34 (.bin .add .num (tT 33) (kI 10)),16384,0,
 false⟩,⟨16,oO 35 (.nilck (tT 32)),8192,0,false⟩,⟨17,oO 36 (.iaddrA 25 1 (tT 35) (tT 34)),122880,0,false⟩,⟨18,oO 37 (.load false 1 (tT 36)),253952,0,false⟩,⟨19,oO 38 (.bin .xor .num (tT 31) (tT 37)),524286,
 0,false⟩,⟨20,oM 39 0,0,0,false⟩,⟨21,oM 40 5,0,0,false⟩,⟨22,oO 41 (.bin .add .num (tT 40) (kI 15)),2097152,0,false⟩,⟨23,oO 42 (.nilck (tT 39)),1048576,0,false⟩,⟨24,oO 43 (.iaddrA 25 1 (tT 42) (tT 41)),15728640,
 0,false⟩,⟨25,oO 44 (.load false 1 (tT 43)),32505856,0,false⟩,⟨26,oO 45 (.bin .xor .num (tT 38) (tT 44)),67108862,0,false⟩,⟨27,oM 46 0,0,0,false⟩,⟨28,oM 47 5,0,0,false⟩,⟨29,oO 48 (.bin .add .num (tT 47) (kI 20)),
 268435456,0,false⟩,⟨30,oO 49 (.nilck (tT 46)),134217728,0,false⟩,⟨31,oO 50 (.iaddrA 25 1 (tT 49) (tT 48)),2013265920,0,false⟩,⟨32,oO 51 (.load false 1 (tT 50)),4160749568,0,false⟩,⟨33,oO 52 (.bin .xor .num (tT 45) (tT 51)),
 8589934590,1,false⟩,⟨34,oO 53 (.iaddrA 5 1 (tT 4) (tT 19)),17179869183,1,false⟩,⟨35,⟨none,.store 1 (tT 53) (tT 52),none⟩,34359738367,1,false⟩]))) (.region [oO 54 (.bin .add .num (tT 16) (kI 1)),oM 16 54]))))))) (sQ (.region [oO 6 (.alloc [(.int .u64 0),
 (.int .u64 0),(.int .u64 0),(.int .u64 0),(.int .u64 0),(.int .u64 0),(.int .u64 0),(.int .u64 0),(.int .u64 0),(.int .u64 0),(.int .u64 0),(.int .u64 0),(.int .u64 0),(.int .u64 0),(.int .u64 0),(.int .u64 0),
 (.int .u64 0),(.int .u64 0),(.int .u64 0),(.int .u64 0),(.int .u64 0),(.int .u64 0),(.int .u64 0),(.int .u64 0),(.int .u64 0)])]) (sQ (sQ (.region [oO 55 (.mov (kI 0))]) (.block 4 (.loop (sQ (.region [oO 56 (.bin .lss .num (tT 55) (kI 5))]) (sQ (.cond (tT 56) .skip (.exit 4)) (sQ (.block 5 (sQ (.region [oM 57 55,
 oM 7 57]) (sQ (.draw [⟨0,oM 58 7,0,0,false⟩,⟨1,oO 59 (.bin .add .num (tT 58) (kI 4)),1,0,false⟩,⟨2,oO 60 (.bin .rem .num (tT 59) (kI 5)),3,0,false⟩,⟨3,oO 61 (.iaddrA 5 1 (tT 4) (tT 60)),7,0,false⟩,⟨4,oO 62 (.load false 1 (tT 61)),
 15,0,false⟩,⟨5,oM 63 7,0,0,false⟩,⟨6,oO 64 (.bin .add .num (tT 63) (kI 1)),32,0,false⟩,⟨7,oO 65 (.bin .rem .num (tT 64) (kI 5)),96,0,false⟩,⟨8,oO 66 (.iaddrA 5 1 (tT 4) (tT 65)),224,0,false⟩,⟨9,oO 67 (.load false 1 (tT 66)),
 480,0,false⟩,⟨10,oO 68 (kC 207 [(tT 67),(kI 1)]),992,0,false⟩,⟨11,oO 69 (.bin .xor .num (tT 62) (tT 68)),2047,1,false⟩,⟨12,oM 8 69,4095,1,false⟩]) (sQ (.region [oO 70 (.mov (kI 0))]) (.block 6 (.loop (sQ (.region [oO 71 (.bin .lss .num (tT 70) (kI 5))]) (sQ (.cond (tT 71) .skip (.exit 6)) (sQ (.block 7 (sQ (.region [oM 72 70,
 oM 9 72]) (.draw [⟨0,oM 73 9,0,0,false⟩,⟨1,oM 74 7,0,0,false⟩,⟨2,oO 75 (.bin .mul .num (kI 2) (tT 74)),2,0,false⟩,⟨3,oM 76 9,0,0,false⟩,⟨4,oO 77 (.bin .mul .num (kI 3) (tT 76)),8,0,false⟩,⟨5,oO 78 (.bin .add .num (tT 75) (tT 77)),
 30,0,false⟩,⟨6,oO 79 (.bin .rem .num (tT 78) (kI 5)),62,0,false⟩,⟨7,oO 80 (.bin .mul .num (kI 5) (tT 79)),126,0,false⟩,⟨8,oO 81 (.bin .add .num (tT 73) (tT 80)),255,0,false⟩,⟨9,oM 82 0,0,0,false⟩,⟨10,oM 83 7,
 0,0,false⟩,⟨11,oM 84 9,0,0,false⟩,⟨12,oO 85 (.bin .mul .num (kI 5) (tT 84)),2048,0,false⟩,⟨13,oO 86 (.bin .add .num (tT 83) (tT 85)),7168,0,false⟩,⟨14,oO 87 (.nilck (tT 82)),512,0,false⟩,⟨15,oO 88 (.iaddrA 25 1 (tT 87) (tT 86)),
 32256,0,false⟩,⟨16,oO 89 (.load false 1 (tT 88)),65024,0,false⟩,⟨17,oM 90 8,0,0,false⟩,⟨18,oO 91 (.bin .xor .num (tT 89) (tT 90)),261632,0,false⟩,⟨19,oM 92 7,0,0,false⟩,⟨20,oM 93 9,0,0,false⟩,⟨21,oO 94 (.bin .mul .num (kI 5) (tT 93)),
 1048576,0,false⟩,⟨22,oO 95 (.bin .add .num (tT 92) (tT 94)),3670016,0,false⟩,⟨23,oO 96 (.iaddrA 25 1 (.global 2) (tT 95)),7864320,0,false⟩,⟨24,oO 97 (.load false 1 (tT 96)),16252928,0,false⟩,⟨25,oO 98 (kC 207 [(tT 91),
 (tT 97)]),33553920,1,false⟩,⟨26,oO 99 (.iaddrA 25 1 (tT 6) (tT 81)),67108863,1,false⟩,⟨27,⟨none,.store 1 (tT 99) (tT 98),none⟩,134217727,1,false⟩]))) (.region [oO 100 (.bin .add .num (tT 70) (kI 1)),oM 70 100])))))))))) (.region [oO 101 (.bin .add .num (tT 55) (kI 1)),
 oM 55 101]))))))) (sQ (sQ (.region [oO 10 (.mov (kI 0))]) (.block 8 (.loop (sQ (sQ (.region [oM 102 10,oO 103 (.bin .lss .num (tT 102) (kI 25))]) (.cond (tT 103) .skip (.exit 8))) (sQ (.block 9 (sQ (.region [oO 106 (.mov (kI 0))]) (.block 10 (.loop (sQ (.region [oO 107 (.bin .lss .num (tT 106) (kI 5))]) (sQ (.cond (tT 107) .skip (.exit 10)) (sQ (.block 11 (sQ (.region [oM 108 106,
 oM 11 108]) (.draw [⟨0,oM 109 0,0,0,false⟩,⟨1,oM 110 11,0,0,false⟩,⟨2,oM 111 10,0,0,false⟩,⟨3,oO 112 (.bin .add .num (tT 110) (tT 111)),6,0,false⟩,⟨4,oM 113 11,0,0,false⟩,⟨5,oM 114 10,0,0,false⟩,⟨6,oO 115 (.bin .add .num (tT 113) (tT 114)),
 48,0,false⟩,⟨7,oO 116 (.iaddrA 25 1 (tT 6) (tT 115)),112,0,false⟩,⟨8,oO 117 (.load false 1 (tT 116)),240,0,false⟩,⟨9,oM 118 11,0,0,false⟩,⟨10,oO 119 (.bin .add .num (tT 118) (kI 1)),512,0,false⟩,⟨11,oO 120 (.bin .rem .num (tT 119) (kI 5)),
 1536,0,false⟩,⟨12,oM 121 10,0,0,false⟩,⟨13,oO 122 (.bin .add .num (tT 120) (tT 121)),7680,0,false⟩,⟨14,oO 123 (.iaddrA 25 1 (tT 6) (tT 122)),15872,0,false⟩,⟨15,oO 124 (.load false 1 (tT 123)),32256,0,false⟩,
 ⟨16,oO 125 (.una .xor (tT 124)),65024,0,false⟩,⟨17,oM 126 11,0,0,false⟩,⟨18,oO 127 (.bin .add .num (tT 126) (kI 2)),131072,0,false⟩,⟨19,oO 128 (.bin .rem .num (tT 127) (kI 5)),393216,0,false⟩,⟨20,oM 129 10,
 0,0,false⟩,⟨21,oO 130 (.bin .add .num (tT 128) (tT 129)),1966080,0,false⟩,⟨22,oO 131 (.iaddrA 25 1 (tT 6) (tT 130)),4063232,0,false⟩,⟨23,oO 132 (.load false 1 (tT 131)),8257536,0,false⟩,⟨24,oO 133 (.bin .and .num (tT 125) (tT 132)),
 16776704,0,false⟩,⟨25,oO 134 (.bin .xor .num (tT 117) (tT 133)),33554416,1,false⟩,⟨26,oO 135 (.nilck (tT 109)),1,0,false⟩,⟨27,oO 136 (.iaddrA 25 1 (tT 135) (tT 112)),134217727,1,false⟩,⟨28,⟨none,.store 1 (tT 136) (tT 134),
 none⟩,268435455,1,false⟩]))) (.region [oO 137 (.bin .add .num (tT 106) (kI 1)),oM 106 137])))))))) (.region [oM 104 10,oO 105 (.bin .add .num (tT 104) (kI 5)),oM 10 105])))))) (.draw [⟨0,oM 138 0,0,1,false⟩,
 ⟨1,oO 139 (.nilck (tT 138)),1,1,false⟩,⟨2,oO 140 (.iaddrA 25 1 (tT 139) (kI 0)),3,1,false⟩,⟨3,oO 141 (.load false 1 (tT 140)),7,1,false⟩,⟨4,oM 142 3,0,0,false⟩,⟨5,oO 143 (.bin .xor .num (tT 141) (tT 142)),
 31,1,false⟩,⟨6,oO 144 (.nilck (tT 138)),1,0,false⟩,⟨7,oO 145 (.iaddrA 25 1 (tT 144) (kI 0)),127,1,false⟩,⟨8,⟨none,.store 1 (tT 145) (tT 143),none⟩,255,1,false⟩])))))))) (.region [oO 146 (.bin .add .num (tT 13) (kI 1)),
 oM 13 146])))))))
theorem ok194 : FnOk Tryz.prog 194 147 ir194 [] := Z7 mixed Tryz.func194 (by kernel_rfl) Tryz.ntmps194 (by kernel_rfl) (by kernel_rfl)
def ir195 : ACode := (sQ (.region [oO 4 (.box (tT 0)),oO 5 (.box (tT 1)),oO 6 (.box (tT 2)),oO 7 (.box (tT 3)),oO 8 (.alloc [nS]),oO 9 (.alloc [nS])]) (sQ (sQ (.region [oO 10 (.faddr 3 (tT 4)),oO 11 (.load false 1 (tT 10)),
 oO 12 (.bin .gtr .num (tT 11) (kI 0)),oM 13 12,oT 13 14 (.faddr 1 (tT 4)),oT 13 15 (.load false 1 (tT 14)),oO 16 (.pick (tT 13) (tT 15) kF)]) (.cond (tT 16) (.draw [⟨0,oO 17 (.load true 1 (tT 6)),0,0,false⟩,
 ⟨1,oO 18 (.faddr 3 (tT 4)),0,0,false⟩,⟨2,oO 19 (.load false 1 (tT 18)),2,0,false⟩,⟨3,oO 20 (kC 34 [(tT 17),(tT 19)]),7,0,false⟩,⟨4,oO 21 (.load true 1 (tT 7)),0,0,false⟩,⟨5,oO 22 (.faddr 3 (tT 4)),0,0,
 false⟩,⟨6,oO 23 (.load false 1 (tT 22)),32,0,false⟩,⟨7,oO 24 (kC 34 [(tT 21),(tT 23)]),127,1,false⟩,⟨8,⟨none,.store 1 (tT 6) (tT 20),none⟩,255,1,false⟩,⟨9,⟨none,.store 1 (tT 7) (tT 24),none⟩,511,1,false⟩]) (sQ (.region [oO 25 (.faddr 3 (tT 4)),
 oO 26 (.load false 1 (tT 25)),oO 27 (.bin .gtr .num (tT 26) (kI 0))]) (.cond (tT 27) (.draw [⟨0,oO 28 (.load true 1 (tT 6)),0,0,false⟩,⟨1,oO 29 (.faddr 3 (tT 4)),0,0,false⟩,⟨2,oO 30 (.load false 1 (tT 29)),
 2,0,false⟩,⟨3,oO 31 (kC 15 [(tT 28),(tT 30)]),7,0,false⟩,⟨4,oO 32 (.load true 1 (tT 7)),0,0,false⟩,⟨5,oO 33 (.faddr 3 (tT 4)),0,0,false⟩,⟨6,oO 34 (.load false 1 (tT 33)),32,0,false⟩,⟨7,oO 35 (kC 15 [(tT 32),
 (tT 34)]),127,1,false⟩,⟨8,⟨none,.store 1 (tT 6) (tT 31),none⟩,255,1,false⟩,⟨9,⟨none,.store 1 (tT 7) (tT 35),none⟩,511,1,false⟩]) .skip)))) (sQ (sQ (.region [oO 36 (.faddr 0 (tT 4)),oO 37 (.load false 1 (tT 36))]) (.cond (tT 37) (.draw [⟨0,
 oO 38 (.faddr 1 (tT 5)),0,0,false⟩,⟨1,oO 39 (.load false 1 (tT 38)),1,0,false⟩,⟨2,oO 40 (.load true 1 (tT 6)),0,0,false⟩,⟨3,oO 41 (kC 37 [(tT 39),(tT 40)]),7,0,false⟩,⟨4,oO 42 (.faddr 1 (tT 5)),0,0,false⟩,
 ⟨5,oO 43 (.load false 1 (tT 42)),16,0,false⟩,⟨6,oO 44 (.load true 1 (tT 7)),0,0,false⟩,⟨7,oO 45 (kC 37 [(tT 43),(tT 44)]),127,1,false⟩,⟨8,⟨none,.store 1 (tT 6) (tT 41),none⟩,255,1,false⟩,⟨9,⟨none,.store 1 (tT 7) (tT 45),
 none⟩,511,1,false⟩]) .skip)) (sQ (.draw [⟨0,oO 46 (.load true 1 (tT 6)),0,0,false⟩,⟨1,oO 47 (.load true 1 (tT 7)),0,0,false⟩,⟨2,⟨none,.store 1 (tT 8) (tT 46),none⟩,1,2,false⟩,⟨3,⟨none,.store 1 (tT 9) (tT 47),
 none⟩,7,1,false⟩]) .ret))))
theorem ok195 : FnOk Tryz.prog 195 48 ir195 [.cell 8 true 1, .cell 9 true 1] := Z7 mixed Tryz.func195 (by kernel_rfl) Tryz.ntmps195 (by kernel_rfl) (by kernel_rfl)
def ir196 : ACode := (sQ (.region [oO 4 (.box (tT 1)),oO 5 (.box (tT 2)),oO 6 (.mov (.const (.int .u8 0)))]) (sQ (.region [oO 7 (.mov (.const (.int .u8 0)))]) (sQ (sQ (.region [oM 10 0,oO 11 (.len (tT 10)),
 oO 12 (.mov (kI 0))]) (.block 0 (.loop (sQ (.region [oO 13 (.bin .lss .num (tT 12) (tT 11))]) (sQ (.cond (tT 13) .skip (.exit 0)) (sQ (.block 1 (sQ (.region [oO 14 (.iaddr 2 (tT 10) (tT 12)),oO 15 (.load true 2 (tT 14)),
 oO 9 (.alloc [nS,nS]),⟨none,.store 2 (tT 9) (tT 15),none⟩]) (.region [oM 16 7,oO 17 (.load true 2 (tT 9)),oO 18 (.load true 1 (tT 4)),oO 19 (.load true 1 (tT 5)),oO 20 (kC 208 [(tT 17),(tT 18),(tT 19)]),
 oO 21 (.mx (tT 16) (tT 20)),oM 7 21]))) (.region [oO 22 (.bin .add .num (tT 12) (kI 1)),oM 12 22]))))))) (sQ (.region [oM 23 7,oM 6 23]) .ret))))
theorem ok196 : FnOk Tryz.prog 196 24 ir196 [.tmp 6] := Z7 mixed Tryz.func196 (by kernel_rfl) Tryz.ntmps196 (by kernel_rfl) (by kernel_rfl)
def ir207 : ACode := (sQ (.region [oO 4 (.mov (.const (.int .u64 0)))]) (sQ (.region [oM 6 1,oO 7 (.conv .u64 (tT 6)),oO 8 (.bin .and .num (tT 7) (.const (.int .u64 63))),oM 5 8]) (sQ (.region [oM 9 0,
 oM 10 5,oO 11 (.bin .shl .num (tT 9) (tT 10)),oM 12 0,oM 13 5,oO 14 (.bin .sub .num (.const (.int .u64 64)) (tT 13)),oO 15 (.bin .shr .num (tT 12) (tT 14)),oO 16 (.bin .or .num (tT 11) (tT 15)),oM 4 16]) .ret)))
theorem ok207 : FnOk Tryz.prog 207 17 ir207 [.tmp 4] := Z7 mixed Tryz.func207 (by kernel_rfl) Tryz.ntmps207 (by kernel_rfl) (by kernel_rfl)
def ir208 : ACode := (sQ (.region [oO 3 (.box (tT 0)),oO 4 (.box (tT 1)),oO 5 (.box (tT 2)),oO 6 (.mov (.const (.int .u8 0)))]) (sQ (.block 0 (sQ (.region [oO 8 (.faddr 0 (tT 3)),oO 9 (.load true 1 (tT 8)),
 oO 10 (.load true 1 (tT 5)),oO 11 (kC 75 [(tT 9),(tT 10)]),oO 12 (.una .not (tT 11)),oM 13 12,oF 13 14 (.faddr 1 (tT 3)),oF 13 15 (.load true 1 (tT 14)),oF 13 16 (.load true 1 (tT 4)),oF 13 17 (kC 84 [(tT 15),
 (tT 16)]),oO 18 (.pick (tT 13) kT (tT 17)),oM 7 18]) (.cond (tT 7) (sQ (.region [oO 6 (.mov (.const (.int .u8 0)))]) .ret) (sQ (.region [oO 20 (.faddr 0 (tT 3)),oO 21 (.load true 1 (tT 20)),oO 22 (.load true 1 (tT 4)),
 oO 23 (kC 75 [(tT 21),(tT 22)]),oM 24 23,oT 24 25 (.faddr 1 (tT 3)),oT 24 26 (.load true 1 (tT 25)),oT 24 27 (.load true 1 (tT 5)),oT 24 28 (kC 84 [(tT 26),(tT 27)]),oT 24 29 (.una .not (tT 28)),oO 30 (.pick (tT 24) (tT 29) kF),
 oM 19 30]) (.cond (tT 19) (sQ (.region [oO 6 (.mov (.const (.int .u8 2)))]) .ret) .skip))))) (sQ (.region [oO 6 (.mov (.const (.int .u8 1)))]) .ret)))
theorem ok208 : FnOk Tryz.prog 208 31 ir208 [.tmp 6] := Z7 mixed Tryz.func208 (by kernel_rfl) Tryz.ntmps208 (by kernel_rfl) (by kernel_rfl)
end Go.Proofs.YtmnbbggaoembeaaGreatDoor
namespace Go.Proofs.YtmnbbggaoembeaaGreatDoor
open Go.RowKit
attribute [local irreducible] aw opsK dK
def nums (l:List Int):List (List PV):=l.map fun x => [.val (.int .i64 x)]
def words (l:List Nat):List (List PV):=l.map fun (x:Nat) => [.val (.int .u64 (x:Int))]
def setP (l:List Nat):PV:=.agg [.vec (words l) false]
theorem Z2C {α:Type} (l:List α) (g:α→List PV) (hg:∀ x∈l,pureL (g x)):pureLL (l.map g):=by
 refine (Z1S _ _).2 fun p hp=>?_; obtain⟨x,hx,rfl⟩:=List.mem_map.1 hp; exact hg x hx
theorem Z34 (l:List Nat):(setP l).pure:=⟨Z2C _ _ fun _ _=>⟨trivial,trivial⟩,trivial⟩
theorem Ze (l:List Nat):pureLL (words l):=Z2C _ _ fun _ _=>⟨trivial,trivial⟩
def IsTrim (l:List Nat) (r:PV):Prop:=∃ k,k≤l.length∧(∀ j,k≤j→l.getD j 0=0)∧(k=0 ∨ l.getD (k-1) 0≠0)∧r=setP (l.take k)
theorem Z73 (k:Nat) (h:k≤9223372036854775807):IntKind.i64.wrap (k:Int)=k:=IntWalk.i64_in _ ⟨by omega,by omega⟩
theorem Z3Z (l:List Nat):Spec Tryz.prog 47 [.vec (words l) false] (IsTrim l):=by
 refine Z2 ok47 (Nat.le_of_ble_eq_true rfl) fun C hC=>?_
 refine Z2V (k:=0) rfl fun hmax=>?_
 have hlm:l.length≤maxVec:=by simpa [words] using hmax
 refine Zt ?_
 refine Zh ?_
 refine go ?_
 refine Z2L (fun k=>k≤l.length∧∀ j,k≤j→l.getD j 0=0) id (fun k => [(0,.vec (words (l.take k)) false),(2,.ptr 0 0 0)]) l.length ⟨Nat.le_refl _,fun j hj=>by simp [List.getD_eq_getElem?_getD,hj]⟩ ⟨by rw [List.take_length]; rfl,rfl,trivial⟩ ?_
 rintro k ⟨hk,hzero⟩
 have hlen:(words (l.take k)).length=k:=by simp [words,hk]
 have hkm:k≤maxVec:=by omega
 (refine go ?_;repeat' (apply B<;>intro hb<;>try cases hb))
 · -- the last word
   have hpos:0<k:=by simpa [hlen] using hb
   have hsub:IntKind.i64.wrap (((words (l.take k)).length:Int)-1)=((k-1:Nat):Int):=by
    rw [hlen,show (k:Int)-1=((k-1:Nat):Int) by omega]; exact Z73 _ (by simp only [maxVec] at hkm;omega)
   refine Z6f (xs:=l.take k) rfl rfl (k-1) hsub (by simp;omega) rfl rfl ?_
   have hget : (l.take k)[k - 1]'(by simp;omega) = l.getD (k - 1) 0 := by
    simp [List.getD_eq_getElem?_getD,show k-1<l.length by omega]
   rw [hget]
   (refine go ?_;repeat' (apply B<;>intro hb<;>try cases hb))
   · refine Zeb (xs := l.take k) rfl 0 (k - 1) rfl (by show some _ = some _; rw [hsub]) (by omega) (by simp; omega) (fun _ => rfl) rfl ?_
     (refine go ?_;repeat' (apply B<;>intro hb<;>try cases hb))
     refine⟨k-1,⟨by omega,fun j hj=>?_⟩,by simp; omega,rfl,rfl,⟨?_,rfl,trivial⟩⟩
     · by_cases hjk : j = k - 1
       · subst hjk; simpa using hb
       · exact hzero j (by omega)
     · show some (PV.vec (words (((l.take k).take (k - 1)).drop 0)) false) = _
       rw [List.drop_zero,List.take_take,Nat.min_eq_left (by omega)]
   · refine Z5 rfl (Z34 (l.take k)) ⟨k, hk, hzero, .inr ?_, rfl⟩
     intro h0
     rw [h0] at hb
     simp at hb
 · refine Z5 rfl (Z34 (l.take k)) ⟨k, hk, hzero, .inl ?_, rfl⟩
   simpa [hlen] using hb
theorem Z1z (l:List Nat) (k:Nat):Spec Tryz.prog 83 [setP l,.val (.int .i64 k)] (· = .val (.int .u64 (l.getD k 0:Nat))):=by
 refine Z2 ok83 (Nat.le_of_ble_eq_true rfl) fun C hC=>?_
 refine Zt ?_
 refine Zh ?_
 refine Z3 rfl rfl rfl ?_
 (refine go ?_;repeat' (apply B<;>intro hb<;>try cases hb))
 · have hk : k < l.length := by simpa [words] using hb
   refine Z6f (xs:=l) rfl rfl k rfl hk rfl rfl ?_
   (refine go ?_;repeat' (apply B<;>intro hb<;>try cases hb))
   exact Z5 rfl trivial (by simp [List.getD_eq_getElem?_getD,hk])
 · have hk : l.length ≤ k := by simpa [words] using hb
   exact Z5 rfl trivial (by simp [List.getD_eq_getElem?_getD,hk,pvOf])
def ofW:List Nat→Nat
 | []=>0
 | x :: r=>x+18446744073709551616*ofW r
def Words (l:List Nat):Prop:=∀ x∈l,x<18446744073709551616
theorem Words.getD {l:List Nat} (h:Words l) (k:Nat):l.getD k 0<18446744073709551616:=by
 rw [List.getD_eq_getElem?_getD]
 cases hk:l[k]? with
 | none=>simp
 | some x=>exact h x (List.mem_of_getElem? hk)
theorem Z2f:∀ {l:List Nat},Words l→∀ i,(ofW l).testBit i=(l.getD (i / 64) 0).testBit (i % 64)
 | [],_,i=>by simp [ofW]
 | x :: r, h, i => by
   have hx:x<2 ^ 64:=h x (by simp)
   have hr:Words r:=fun y hy=>h y (by simp [hy])
   have he:ofW (x :: r)=2 ^ 64*ofW r+x:=by simp only [ofW]; omega
   rw [he,Nat.testBit_two_pow_mul_add _ hx]
   by_cases hi:i<64
   · rw [if_pos hi,Nat.div_eq_of_lt hi,Nat.mod_eq_of_lt hi]; rfl
   · rw [if_neg hi, Z2f hr]
     have h1:i / 64=(i-64) / 64+1:=by omega
     have h2:(i-64) % 64=i % 64:=by omega
     rw [h1,h2]
     rfl
theorem Z54:∀ {l:List Nat},(∀ j,l.getD j 0=0)→ofW l=0
 | [],_=>rfl
 | x :: r, h => by
   have h0:x=0:=h 0
   have hr:ofW r=0:=Z54 fun j=>h (j+1)
   simp [ofW,h0,hr]
theorem Zam:∀ {l:List Nat} {k:Nat},(∀ j,k≤j→l.getD j 0=0)→ofW (l.take k)=ofW l
 | [],k,_=>by simp
 | x :: r,0,h=>by simp only [List.take_zero]; exact (Z54 fun j=>h j (Nat.zero_le _)).symm
 | x :: r, k + 1, h => by
   simp only [List.take_succ_cons,ofW]
   rw [Zam (l:=r) (k:=k) fun j hj=>h (j+1) (by omega)]
def digs (N:Nat):List Nat:=if h:N=0 then [] else N % 18446744073709551616 :: digs (N / 18446744073709551616)
termination_by N
decreasing_by omega
theorem ZG:digs 0 = []:=by rw [digs]; simp
theorem Z3o {N:Nat} (h:N≠0):digs N=N % 18446744073709551616 :: digs (N / 18446744073709551616):=by rw [digs]; simp [h]
theorem Z2D (N:Nat):Words (digs N):=by
 induction N using Nat.strongRecOn with
 | _ N ih =>
   by_cases h:N=0
   · rw [h,ZG]; intro x hx; cases hx
   · rw [Z3o h]
     intro x hx
     rcases List.mem_cons.1 hx with rfl|hx
     · omega
     · exact ih _ (by omega) x hx
theorem Z55 (N:Nat):ofW (digs N)=N:=by
 induction N using Nat.strongRecOn with
 | _ N ih =>
   by_cases h:N=0
   · rw [h,ZG]; rfl
   · rw [Z3o h,ofW,ih _ (by omega)]; omega
def Canon (l:List Nat):Prop:=l.length=0 ∨ l.getD (l.length-1) 0≠0
theorem Zan:∀ {l:List Nat},Words l→Canon l→digs (ofW l)=l
 | [],_,_=>by simp [ofW,ZG]
 | x :: r, h, hc => by
   have hx:x<18446744073709551616:=h x (by simp)
   have hr:Words r:=fun y hy=>h y (by simp [hy])
   have hcr:Canon r:=by
    cases r with
    | nil=>exact .inl rfl
    | cons y s => refine .inr ?_; rcases hc with hc | hc
                  · simp at hc
                  · simpa using hc
   have ih:=Zan hr hcr
   have hne:ofW (x :: r)≠0:=by
    simp only [ofW]
    cases r with
    | nil => rcases hc with hc | hc
             · simp at hc
             · simp at hc; simp [ofW]; exact hc
    | cons y s =>
      have:ofW (y :: s)≠0:=fun h0=>by rw [h0,ZG] at ih; cases ih
      omega
   have h1:ofW (x :: r) % 18446744073709551616=x:=by simp only [ofW]; omega
   have h2:ofW (x :: r) / 18446744073709551616=ofW r:=by simp only [ofW]; omega
   rw [Z3o hne,h1,h2,ih]
def setN (N:Nat):PV:=setP (digs N)
theorem Z1 (N:Nat):(setN N).pure:=Z34 _
theorem Zao {l:List Nat} (h:Words l) (hc:Canon l):setP l=setN (ofW l):=by rw [setN,Zan h hc]
theorem IsTrim.set {l:List Nat} (hl:Words l) {r:PV} (h:IsTrim l r):r=setN (ofW l):=by
 obtain⟨k,hk,hz,hn,rfl⟩:=h
 rw [← Zam hz]
 refine Zao (fun x hx=>hl x (List.mem_of_mem_take hx)) ?_
 rcases hn with rfl|hn
 · exact .inl (by simp)
 · by_cases h0 : k = 0
   · subst h0; exact .inl (by simp)
   · refine .inr ?_
     have e:(l.take k).length=k:=by simp [hk]
     rw [e]
     simpa [List.getD_eq_getElem?_getD,List.getElem?_take,show k-1<k by omega] using hn
theorem Z7Y (l:List Nat) (k v:Nat):(words l).set k [.val (.int .u64 (v:Int))]=words (l.set k v):=by simp [words,List.map_set]
theorem Words.set {l:List Nat} (h:Words l) (k:Nat) {v:Nat} (hv:v<18446744073709551616):Words (l.set k v):=fun x hx=>by
 rcases List.mem_or_eq_of_mem_set hx with hx|rfl
 · exact h x hx
 · exact hv
theorem Zfb {l:List Nat} (h:Words l) {k j:Nat} (hk:k<l.length) (hj:j<64):ofW (l.set k (l.getD k 0 ||| 2 ^ j))=ofW l ||| 2 ^ (64*k+j):=by
 have hv:l.getD k 0 ||| 2 ^ j<18446744073709551616:=Nat.or_lt_two_pow (n:=64) (h.getD k) (Nat.pow_lt_pow_right (by omega) hj)
 refine Nat.eq_of_testBit_eq fun i=>?_
 rw [Z2f (h.set k hv),Nat.testBit_or,Z2f h,Nat.testBit_two_pow]
 by_cases hik:i / 64=k
 · subst hik
   have:(l.set (i / 64) (l.getD (i / 64) 0 ||| 2 ^ j)).getD (i / 64) 0=l.getD (i / 64) 0 ||| 2 ^ j:=by simp [List.getD_eq_getElem?_getD,hk]
   rw [this,Nat.testBit_or,Nat.testBit_two_pow]
   congr 1
   rw [decide_eq_decide]
   omega
 · have : (l.set k (l.getD k 0 ||| 2 ^ j)).getD (i / 64) 0 = l.getD (i / 64) 0 := by
    simp only [List.getD_eq_getElem?_getD,List.getElem?_set,if_neg (Ne.symm hik)]
   rw [this]
   have:¬ (64*k+j=i):=by omega
   simp [this]
def maskTo (top:Int) (l:List Int):Nat:=l.foldl (fun acc i=>if 0≤i∧i≤top then acc ||| 2 ^ i.toNat else acc) 0
def topOf (l:List Int):Int:=l.foldl (fun t i=>if i≤4095 then (if i>t then i else t) else t) (-1)
theorem Z6j {l:List Int} {i:Nat} (hi:i<l.length):topOf (l.take (i+1))=if l[i]≤4095 then (if l[i]>topOf (l.take i) then l[i] else topOf (l.take i)) else topOf (l.take i):=by
 simp only [topOf,List.take_add_one,List.getElem?_eq_getElem hi,Option.toList_some,List.foldl_append,List.foldl_cons,List.foldl_nil]
 rfl
theorem topOf_take' {l:List Int} {i:Nat} (hi:i<l.length) (h:l[i]≤4095):topOf (l.take (i+1))=if l[i]>topOf (l.take i) then l[i] else topOf (l.take i):=by rw [Z6j hi,if_pos h]
theorem Z98 {l:List Int} {i:Nat} (hi:i<l.length) (h:¬ l[i]≤4095):topOf (l.take (i+1))=topOf (l.take i):=by rw [Z6j hi,if_neg h]
theorem Z5l {t:Int} {l:List Int} {i:Nat} (hi:i<l.length):maskTo t (l.take (i+1))=if 0≤l[i]∧l[i]≤t then maskTo t (l.take i) ||| 2 ^ l[i].toNat else maskTo t (l.take i):=by
 simp only [maskTo,List.take_add_one,List.getElem?_eq_getElem hi,Option.toList_some,List.foldl_append,List.foldl_cons,List.foldl_nil]
theorem Z99:∀ (l:List Int),-1≤topOf l∧topOf l≤4095:=by
 intro l
 have:∀ (l:List Int) (t:Int),-1≤t→t≤4095 → -1≤l.foldl (fun t i=>if i≤4095 then (if i>t then i else t) else t) t∧l.foldl (fun t i=>if i≤4095 then (if i>t then i else t) else t) t≤4095:=by
  intro l
  induction l with
  | nil=>intro t h1 h2; exact⟨h1,h2⟩
  | cons x r ih =>
    intro t h1 h2
    simp only [List.foldl_cons]
    refine ih _ ?_ ?_
    · split
      · split<;>omega
      · exact h1
    · split
      · split<;>omega
      · exact h2
 exact this l (-1) (by omega) (by omega)
theorem Zbb {t:Int} {l:List Int} (h:t<0):maskTo t l=0:=by
 have:∀ (l:List Int) (a:Nat),l.foldl (fun acc i=>if 0≤i∧i≤t then acc ||| 2 ^ i.toNat else acc) a=a:=by
  intro l
  induction l with
  | nil=>intro a; rfl
  | cons x r ih=>intro a; simp only [List.foldl_cons]; rw [if_neg (by omega)]; exact ih a
 exact this l 0
theorem Zu (l:List Int):pureLL (nums l):=Z2C _ _ fun _ _=>⟨trivial,trivial⟩
theorem Z40 (l:List Int) (D:Nat→Prop):innLL D (nums l):=Za (fun _ h=>h.elim) _ (Zu l)
theorem ZH (l:List Nat) (D:Nat→Prop):innLL D (words l):=Za (fun _ h=>h.elim) _ (Ze l)
set_option maxHeartbeats 1000000 in
theorem Z9a (l:List Int) (fl:Bool):Spec Tryz.prog 17 [.vec (nums l) fl] (· = setN (maskTo (topOf l) l)):=by
 refine Z2 ok17 (Nat.le_of_ble_eq_true rfl) fun C hC=>?_
 refine Z2V (k:=0) rfl fun hmax=>?_
 have hlm:l.length≤maxVec:=by simpa [nums] using hmax
 have hnl:(nums l).length=l.length:=by simp [nums]
 refine go ?_
 refine Z2L (fun i=>i≤l.length) (fun i=>l.length-i) (fun i => [(0,.vec (nums l) fl),(2,.ptr 0 0 0),(3,.val (.int .i64 (topOf (l.take i)))),(9,.vec (nums l) fl),(10,.val (.int .i64 (l.length:Int))),(11,.val (.int .i64 (i:Int)))]) 0 (Nat.zero_le _) ⟨rfl,rfl,rfl,rfl,by rw [← hnl]; rfl,rfl,trivial⟩ ?_
 intro i hi
 have hinc:IntKind.i64.wrap ((i:Int)+1)=((i+1:Nat):Int):=IntWalk.i64_in _ ⟨by omega,by simp only [maxVec] at hlm; omega⟩
 (refine go ?_;repeat' (apply B<;>intro hb<;>try cases hb))
 · have hil : i < l.length := by simpa using hb
   refine Z0 (Zo (xs:=l) rfl rfl i rfl hil rfl) rfl rfl ?_
   (refine go ?_;repeat' (apply B<;>intro hb<;>try cases hb))
   · refine ⟨i + 1, by omega, by omega, rfl, rfl, ⟨rfl, rfl, ?_, rfl, rfl, by show some _ = some _; rw [hinc], trivial⟩⟩
     rw [topOf_take' hil (by simpa using hb)]; rfl
   · refine ⟨i + 1, by omega, by omega, rfl, rfl, ⟨rfl, rfl, ?_, rfl, rfl, by show some _ = some _; rw [hinc], trivial⟩⟩
     rw [Z98 hil (by simpa using hb)]; rfl
 · -- no member
   rename_i hb2
   have hil:i=l.length:=by simp at hb2; omega
   subst hil
   refine ZV rfl ⟨trivial,trivial⟩ ?_
   rw [List.take_length] at hb
   have hlt:topOf l<0:=by simpa using hb
   rw [Zbb hlt,setN,ZG]
   rfl
 · rename_i hb2
   have hil:i=l.length:=by simp at hb2; omega
   subst hil
   rw [List.take_length] at hb ⊢
   have hge:0≤topOf l:=by simpa using hb
   obtain⟨t,ht⟩:∃ t:Nat,topOf l=t:=⟨(topOf l).toNat,by omega⟩
   have htr:=(Z99 l).2
   rw [ht] at htr ⊢
   have hq:IntKind.i64.wrap ((t:Int).tdiv 64)=((t / 64:Nat):Int):=by
    rw [IntWalk.i64_quo _ _ ⟨by omega,by omega,by omega⟩]; omega
   have hq1:IntKind.i64.wrap (((t / 64:Nat):Int)+1)=((t / 64+1:Nat):Int):=IntWalk.i64_in _ ⟨by omega,by omega⟩
   rw [hq,hq1]
   refine ZU (Zak (a:=t / 64+1) (b:=t / 64+1) rfl rfl (Nat.le_refl _) (by omega)) rfl rfl ?_
   have hrep:List.replicate (t / 64+1) (zpv [Value.int .u64 0])=words (List.replicate (t / 64+1) 0):=by simp [words,zpv,pvOf]
   rw [hrep]
   refine go ?_
   refine Zl hC (fun (x:Nat×List Nat)=>x.1≤l.length∧x.2.length=t / 64+1∧Words x.2∧ofW x.2=maskTo t (l.take x.1)) (fun x=>l.length-x.1) 2 (fun x => [(2,.ptr 0 0 0),(3,.val (.int .i64 (t:Int))),(6,.own 1),(28,.vec (nums l) fl),(29,.val (.int .i64 (l.length:Int))),(30,.val (.int .i64 (x.1:Int)))])
    (fun x => [(0,⟨1,[[.vec [] true]]⟩),(1,⟨1,words x.2⟩)]) (by omega) (0,List.replicate (t / 64+1) 0) ⟨Nat.zero_le _,by simp,fun x hx=>by obtain rfl:=List.eq_of_mem_replicate hx; omega,?_⟩ ⟨⟨rfl,show (0:Nat)<2 by decide⟩,⟨rfl,trivial⟩,⟨rfl,show (1:Nat)<2 by decide⟩,⟨rfl,Z40 _ _⟩,⟨by rw [← hnl]; rfl,trivial⟩,⟨rfl,trivial⟩,trivial⟩
    ⟨⟨by omega,rfl,⟨trivial,trivial⟩,trivial⟩,⟨by omega,rfl,ZH _ _⟩,trivial⟩ ?_
   · rw [Z54 fun j=>by simp [List.getD_eq_getElem?_getD,List.getElem?_replicate]; split<;>rfl]; rfl
   rintro⟨i,ws⟩ ⟨hi,hwl,hww,hmask⟩
   simp only at hi hwl hww hmask
   have hinc:IntKind.i64.wrap ((i:Int)+1)=((i+1:Nat):Int):=IntWalk.i64_in _ ⟨by omega,by simp only [maxVec] at hlm; omega⟩
   (refine go ?_;repeat' (apply B<;>intro hb<;>try cases hb))
   · have hil : i < l.length := by simpa using hb
     refine Z0 (Zo (xs:=l) rfl rfl i rfl hil rfl) rfl rfl ?_
     (refine go ?_;repeat' (apply B<;>intro hb<;>try cases hb))
     · have h0 : 0 ≤ l[i] := by rename_i h0; simpa using h0
       have h1:l[i]≤(t:Int):=by simpa using hb
       have hm:maskTo t (l.take (i+1))=maskTo t (l.take i) ||| 2 ^ l[i].toNat:=by rw [Z5l hil,if_pos ⟨h0,h1⟩]
       obtain⟨j,hj⟩:∃ j:Nat,l[i]=j:=⟨l[i].toNat,by omega⟩
       rw [hj] at h1 hm ⊢
       rw [Int.toNat_natCast] at hm
       have hjq:IntKind.i64.wrap ((j:Int).tdiv 64)=((j / 64:Nat):Int):=by
        rw [IntWalk.i64_quo _ _ ⟨by omega,by omega,by omega⟩]; omega
       have hjr:(j:Int).tmod 64=((j % 64:Nat):Int):=by
        rw [Int.tmod_eq_emod_of_nonneg (by omega)]; omega
       rw [hjq]
       have hjl:j / 64<ws.length:=by omega
       have hel:(words ws).getD (j / 64) [] = [.val (.int .u64 (ws.getD (j / 64) 0:Nat))]:=by simp [words,List.getD_eq_getElem?_getD,hjl]
       have hj64:j % 64<64:=Nat.mod_lt _ (by omega)
       have hwn:(words ws).length=ws.length:=by simp [words]
       refine Zd (ZJ rfl rfl rfl (j / 64) rfl (by rw [hwn]; exact hjl) rfl) rfl rfl ?_
       refine Zd (Z2B rfl rfl (by rw [hwn]; exact hjl) (by rw [hel]; rfl)) rfl rfl ?_
       (first|refine st ?_|(apply B<;>intro hb<;>try cases hb))
       refine Zd (ZP rfl hjr) rfl rfl ?_
       refine Zd (Zcs rfl rfl (by omega) (v:=((2 ^ (j % 64):Nat):Int)) (by
        rw [show min (((j % 64:Nat):Int)).toNat IntKind.u64.bits=j % 64 by simp [IntKind.bits]; omega]
        have:2 ^ (j % 64)<2 ^ 64:=Nat.pow_lt_pow_right (by omega) hj64
        rw [Int.one_mul,show (2:Int) ^ (j % 64)=((2 ^ (j % 64):Nat):Int) by simp]
        exact IntWalk.u64_in _ ⟨Int.natCast_nonneg _,Int.ofNat_le.2 (show _≤18446744073709551615 by omega)⟩)) rfl rfl ?_
       refine Zd (ZP rfl (bits_or_u64_nat _ _ (hww.getD _) (show 2 ^ (j % 64)<2 ^ 64 from Nat.pow_lt_pow_right (by omega) hj64))) rfl rfl ?_
       refine Zd (ZJ rfl rfl rfl (j / 64) rfl (by rw [hwn]; exact hjl) rfl) rfl rfl ?_
       refine Zd (Z1I rfl rfl rfl rfl rfl (by rw [hwn]; exact hjl) (Nat.le_refl _)) rfl rfl ?_
       rw [hel,show setAt [PV.val (Value.int .u64 (ws.getD (j / 64) 0:Nat))] 0 (PV.val (Value.int .u64 ((ws.getD (j / 64) 0 ||| 2 ^ (j % 64):Nat):Int))).cells = [.val (.int .u64 ((ws.getD (j / 64) 0 ||| 2 ^ (j % 64):Nat):Int))] from rfl]
       simp only
       rw [Z7Y]
       (refine go ?_;repeat' (apply B<;>intro hb<;>try cases hb))
       refine⟨(i+1,ws.set (j / 64) (ws.getD (j / 64) 0 ||| 2 ^ (j % 64))),⟨by simp only; omega,by simpa using hwl,hww.set _ (Nat.or_lt_two_pow (n:=64) (hww.getD _) (Nat.pow_lt_pow_right (a:=2) (by omega) hj64)),?_⟩,by simp only; omega,⟨⟨rfl,show (0:Nat)<2 by decide⟩,⟨rfl,trivial⟩,⟨rfl,show (1:Nat)<2 by decide⟩,⟨rfl,Z40 _ _⟩,⟨rfl,trivial⟩,⟨by show some _=some _; rw [hinc],trivial⟩,trivial⟩,⟨⟨by omega,rfl,⟨trivial,trivial⟩,trivial⟩,⟨by omega,rfl,ZH _ _⟩,trivial⟩⟩
       simp only
       rw [Zfb hww hjl hj64,hm,hmask,show 64*(j / 64)+j % 64=j by omega]
     all_goals
      refine⟨(i+1,ws),⟨by simp only; omega,hwl,hww,?_⟩,by simp only; omega,⟨⟨rfl,show (0:Nat)<2 by decide⟩,⟨rfl,trivial⟩,⟨rfl,show (1:Nat)<2 by decide⟩,⟨rfl,Z40 _ _⟩,⟨rfl,trivial⟩,⟨by show some _=some _; rw [hinc],trivial⟩,trivial⟩,⟨⟨by omega,rfl,⟨trivial,trivial⟩,trivial⟩,⟨by omega,rfl,ZH _ _⟩,trivial⟩⟩
      simp only
      rw [Z5l hil,if_neg (by simp at hb;omega)]
      exact hmask
   · have hil : i = l.length := by simp at hb; omega
     subst hil
     refine Zj (Zw (k:=52) rfl rfl (Ze ws)) ?_
     refine ZY rfl rfl (Z3Z ws) ⟨Ze ws,trivial⟩ rfl fun r hr=>?_
     obtain rfl:=hr.set hww
     refine go ?_
     exact Z5 (r:=setN (ofW ws)) rfl (Z1 _) (by rw [hmask,List.take_length])
theorem Z74 (a k:Nat):Int.fdiv (a:Int) (2 ^ k)=((a / 2 ^ k:Nat):Int):=by
 rw [Int.fdiv_eq_ediv_of_nonneg _ (by exact Int.le_of_lt (Int.pow_pos (by omega)))]
 simp
theorem Zap (l:List Nat) (hl:Words l) (i:Int):Spec Tryz.prog 35 [setP l,.val (.int .i64 i)] (· = .val (.bool (decide (0≤i∧i≤4095)&&(l.getD (i.toNat / 64) 0).testBit (i.toNat % 64)))):=by
 refine Z2 ok35 (Nat.le_of_ble_eq_true rfl) fun C hC=>?_
 refine Zt ?_
 refine Zh ?_
 refine Z3 rfl rfl rfl ?_
 (refine go ?_;repeat' (apply B<;>intro hb<;>try cases hb))
 · rename_i h0
   have h1:0≤i:=by simpa using h0
   have h2:i≤4095:=by simpa using hb
   obtain⟨j,rfl⟩:∃ j:Nat,i=j:=⟨i.toNat,by omega⟩
   have hq:IntKind.i64.wrap ((j:Int).tdiv 64)=((j / 64:Nat):Int):=by
    rw [IntWalk.i64_quo _ _ ⟨by omega,by omega,by omega⟩]; omega
   have hr:(j:Int).tmod 64=((j % 64:Nat):Int):=by
    rw [Int.tmod_eq_emod_of_nonneg (by omega)]; omega
   refine Z6 (Z1z l (j / 64)) rfl rfl (by show [_,_]=_; rw [hq]; rfl) ⟨Z34 l,trivial,trivial⟩ rfl ?_
   refine Zi rfl ?_
   (first|refine st ?_|(apply B<;>intro hb<;>try cases hb))
   refine Zi rfl ?_
   refine Z8 rfl rfl rfl hr ?_
   refine Zi rfl ?_
   have hw:=hl.getD (j / 64)
   have hm:j % 64<64:=Nat.mod_lt _ (by omega)
   refine Z2K rfl rfl (by omega) (v:=((l.getD (j / 64) 0 / 2 ^ (j % 64):Nat):Int)) (by
    rw [show min (((j % 64:Nat):Int)).toNat IntKind.u64.bits=j % 64 by simp [IntKind.bits]; omega]
    exact Z74 _ _) rfl ?_
   refine Zi rfl ?_
   refine Z8 rfl rfl rfl (and_one_u64 _ (Int.natCast_nonneg _) (by
    have:=Nat.div_le_self (l.getD (j / 64) 0) (2 ^ (j % 64))
    exact Int.ofNat_le.2 (show _≤18446744073709551615 by omega))) ?_
   have ht:(((l.getD (j / 64) 0 / 2 ^ (j % 64):Nat):Int) % 2 == 1)=(l.getD (j / 64) 0).testBit (j % 64):=by
    rw [Nat.testBit_eq_decide_div_mod_eq,Bool.eq_iff_iff]
    generalize l.getD (j / 64) 0 / 2 ^ (j % 64)=z
    simp only [beq_iff_eq,decide_eq_true_eq]
    omega
   have ht':(decide (0≤(j:Int)∧(j:Int)≤4095)&&(l.getD ((j:Int).toNat / 64) 0).testBit ((j:Int).toNat % 64))=(l.getD (j / 64) 0).testBit (j % 64):=by
    simp only [Int.toNat_natCast,decide_eq_true (show 0≤(j:Int)∧(j:Int)≤4095 from ⟨h1,h2⟩),Bool.true_and]
   rw [ht',← ht]
   refine Zi rfl ?_
   generalize (((l.getD (j / 64) 0 / 2 ^ (j % 64):Nat):Int) % 2)=z
   (refine go ?_;repeat' (apply B<;>intro hb<;>try cases hb))
   all_goals exact Z5 rfl trivial (by rw [hb])
 · exact Z5 rfl trivial (by simp at hb ⊢;omega)
 · exact Z5 rfl trivial (by simp at hb ⊢;omega)
def rep (c:Nat):Nat→Nat
 | 0=>0
 | n+1=>c+256*rep c n
def s1 (m x:Nat):Nat:=(x / 2 &&& m)+(x &&& m)
def s2 (m x:Nat):Nat:=(x / 4 &&& m)+(x &&& m)
def s3 (m x:Nat):Nat:=(x / 16+x) &&& m
theorem Z9b (l:List Int):(nums l).length=l.length:=by simp [nums]
theorem ZcB (N:Nat) (r:Int) (h1:0≤r) (h2:r≤4095):Spec Tryz.prog 35 [.agg [.vec (words (digs N)) false],.val (.int .i64 r)] (· = .val (.bool (N.testBit r.toNat))):=by
 have h:=Zap (digs N) (Z2D N) r
 rw [decide_eq_true (⟨h1,h2⟩:0≤r∧r≤4095),Bool.true_and,← Z2f (Z2D N),Z55] at h
 exact h
theorem Z5m (N j:Nat):((((N / 2 ^ j % 2:Nat):Int)) == 1)=N.testBit j:=by
 rw [Nat.testBit_eq_decide_div_mod_eq,Bool.eq_iff_iff]
 simp only [beq_iff_eq,decide_eq_true_eq]
 omega
theorem Z35 (N j:Nat) (h:j<64):Int.fdiv (N:Int) (2 ^ (min ((j:Nat):Int).toNat IntKind.u64.bits))=((N / 2 ^ j:Nat):Int):=by
 rw [show min (((j:Nat):Int)).toNat IntKind.u64.bits=j by simp [IntKind.bits]; omega]
 exact Z74 _ _
theorem Z2M (N j:Nat):(((N / 2 ^ j:Nat):Int)).tmod 2=((N / 2 ^ j % 2:Nat):Int):=by
 generalize N / 2 ^ j=z
 rw [Int.tmod_eq_emod_of_nonneg (by omega)]; omega
theorem Zbc (N:Nat):Canon (digs N):=by
 induction N using Nat.strongRecOn with
 | _ N ih =>
   by_cases h:N=0
   · rw [h,ZG]; exact .inl rfl
   · rw [Z3o h]
     refine .inr ?_
     have:=ih (N / 18446744073709551616) (by omega)
     cases hd:digs (N / 18446744073709551616) with
     | nil =>
       have h0:=Z55 (N / 18446744073709551616)
       rw [hd] at h0
       simp only [ofW] at h0
       simp
       omega
     | cons y s =>
       rw [hd] at this
       rcases this with h|h
       · simp at h
       · simpa using h
theorem ZcC:∀ (l:List Nat) (k:Nat),ofW (l++List.replicate k 0)=ofW l
 | [], k => by
   rw [List.nil_append]
   exact Z54 fun j=>by rw [List.getD_eq_getElem?_getD,List.getElem?_replicate]; split<;>rfl
 | x :: r,k=>by simp only [List.cons_append,ofW,ZcC r k]
theorem ZcD (x j:Nat):x ||| 2 ^ j≠0:=fun h=>by
 have:=congrArg (fun z=>Nat.testBit z j) h
 simp [Nat.testBit_or] at this
theorem Zbd (N i:Nat) (h:i≤4095) (L:Nat) (hL:L=max (digs N).length (i / 64+1)) :
 let l:=digs N++List.replicate (L-(digs N).length) 0
 Words l∧l.length=L∧i / 64<l.length∧∃ v,v=l.getD (i / 64) 0 ||| 2 ^ (i % 64)∧setP (l.set (i / 64) v)=setN (N ||| 2 ^ i):=by
 intro l
 have hw:Words l:=fun x hx=>by
  rcases List.mem_append.1 hx with hx|hx
  · exact Z2D N x hx
  · rw [List.eq_of_mem_replicate hx]; omega
 have hl:l.length=L:=by simp [l]; omega
 have hi:i / 64<l.length:=by omega
 refine⟨hw,hl,hi,_,rfl,?_⟩
 have hm:i % 64<64:=Nat.mod_lt _ (by omega)
 have hv:l.getD (i / 64) 0 ||| 2 ^ (i % 64)<18446744073709551616:=Nat.or_lt_two_pow (n:=64) (hw.getD _) (Nat.pow_lt_pow_right (by omega) hm)
 have hc:Canon (l.set (i / 64) (l.getD (i / 64) 0 ||| 2 ^ (i % 64))):=by
  refine .inr ?_
  rw [List.length_set,hl]
  by_cases he:L-1=i / 64
  · rw [he, List.getD_eq_getElem?_getD, List.getElem?_set]
    simp only [if_pos hi,if_true,Option.getD_some]
    exact ZcD _ _
  · have hLd : L = (digs N).length := by omega
    rw [List.getD_eq_getElem?_getD,List.getElem?_set,if_neg (Ne.symm he),← List.getD_eq_getElem?_getD]
    have hl2:l=digs N:=by simp [l,hLd]
    rw [hl2,hLd]
    rcases Zbc N with h0|h0
    · omega
    · exact h0
 rw [Zao (hw.set _ hv) hc,Zfb hw hi hm,ZcC,Z55,show 64*(i / 64)+i % 64=i by omega]
def withN (N:Nat) (i:Int):Nat:=if 0≤i∧i≤4095 then N ||| 2 ^ i.toNat else N
theorem ZcE {N i:Nat} (h:N.testBit i=true):N ||| 2 ^ i=N:=by
 refine Nat.eq_of_testBit_eq fun j=>?_
 rw [Nat.testBit_or,Nat.testBit_two_pow]
 by_cases hj:i=j
 · subst hj; simp [h]
 · simp [hj]
set_option maxHeartbeats 1000000 in
theorem Z36 (N:Nat) (hN:(digs N).length≤64) (i:Int):Spec Tryz.prog 15 [setN N,.val (.int .i64 i)] (· = setN (withN N i)):=by
 refine Z2 ok15 (Nat.le_of_ble_eq_true rfl) fun C hC=>?_
 refine Zt ?_
 refine Zh ?_
 refine Z3 rfl rfl rfl ?_
 (refine go ?_;repeat' (apply B<;>intro hb<;>try cases hb))
 · refine Z5 rfl (Z1 N) ?_
   rw [withN,if_neg (by simp at hb;omega)]; rfl
 · refine Z5 rfl (Z1 N) ?_
   rw [withN,if_neg (by simp at hb;omega)]; rfl
 rename_i h0
 have h1:0≤i:=by simp at h0; omega
 have h2:i≤4095:=by simp at hb; omega
 obtain⟨j,rfl⟩:∃ j:Nat,i=j:=⟨i.toNat,by omega⟩
 rw [withN,if_pos ⟨h1,h2⟩,Int.toNat_natCast]
 have hs:=ZcB N j h1 h2
 rw [Int.toNat_natCast] at hs
 refine Z6 hs rfl rfl rfl ⟨⟨Ze _,trivial⟩,trivial,trivial⟩ rfl ?_
 cases ht:N.testBit j with
 | true =>
   refine go ?_
   refine Z5 rfl (Z1 N) ?_
   rw [ZcE ht]; rfl
 | false =>
   have hdl:(words (digs N)).length=(digs N).length:=by simp [words]
   obtain⟨hw,hl,hi,v,hv,hset⟩:=Zbd N j (by omega) _ rfl
   have hq:IntKind.i64.wrap ((j:Int).tdiv 64)=((j / 64:Nat):Int):=by
    rw [IntWalk.i64_quo _ _ ⟨by omega,by omega,by omega⟩]; omega
   have hr:(j:Int).tmod 64=((j % 64:Nat):Int):=by
    rw [Int.tmod_eq_emod_of_nonneg (by omega)]; omega
   have hq1:IntKind.i64.wrap (((j / 64:Nat):Int)+1)=((j / 64+1:Nat):Int):=IntWalk.i64_in _ ⟨by omega,by omega⟩
   have hmax:(if ((j / 64+1:Nat):Int)>(((words (digs N)).length:Nat):Int) then ((j / 64+1:Nat):Int) else (((words (digs N)).length:Nat):Int))=((max (digs N).length (j / 64+1):Nat):Int):=by
    rw [hdl]; split<;>omega
   generalize max (digs N).length (j / 64+1)=L at *
   refine go ?_
   rw [hq,hq1,hmax]
   refine ZU (Zak (a:=L) (b:=L) rfl rfl (Nat.le_refl _) (by omega)) rfl rfl ?_
   have hrep:List.replicate L (zpv [Value.int .u64 0])=words (List.replicate L 0):=by simp [words,zpv,pvOf]
   rw [hrep]
   have hcopy:(words (digs N)).take (words (List.replicate L 0)).length++(words (List.replicate L 0)).drop (words (digs N)).length=words (digs N++List.replicate (L-(digs N).length) 0):=by
    have hle:(digs N).length≤L:=by omega
    have e1:(words (List.replicate L 0)).length=L:=by simp [words]
    rw [e1,List.take_of_length_le (by rw [hdl]; exact hle),hdl]
    simp [words,List.map_append,List.drop_replicate]
   have hwl:∀ c∈words (digs N),c.length=1:=fun c hc=>by obtain⟨x,_,rfl⟩:=List.mem_map.1 hc; rfl
   iterate 7 (first|refine st ?_|(apply B<;>intro hb<;>try cases hb))
   refine Z0 (Zgj (k:=1) rfl rfl rfl hwl rfl) rfl rfl ?_
   simp only
   rw [hcopy]
   generalize digs N++List.replicate (L-(digs N).length) 0=ws at *
   have hm64:j % 64<64:=Nat.mod_lt _ (by omega)
   have hwn:(words ws).length=ws.length:=by simp [words]
   have hel:(words ws).getD (j / 64) [] = [.val (.int .u64 (ws.getD (j / 64) 0:Nat))]:=by simp [words,List.getD_eq_getElem?_getD,hi]
   refine go ?_
   rw [hq]
   refine Zd (ZJ rfl rfl rfl (j / 64) rfl (by rw [hwn]; exact hi) rfl) rfl rfl ?_
   refine Zd (Z2B rfl rfl (by rw [hwn]; exact hi) (by rw [hel]; rfl)) rfl rfl ?_
   (first|refine st ?_|(apply B<;>intro hb<;>try cases hb))
   refine Zd (ZP rfl hr) rfl rfl ?_
   refine Zd (Zcs rfl rfl (by omega) (v:=((2 ^ (j % 64):Nat):Int)) (by
    rw [show min (((j % 64:Nat):Int)).toNat IntKind.u64.bits=j % 64 by simp [IntKind.bits]; omega]
    have:2 ^ (j % 64)<2 ^ 64:=Nat.pow_lt_pow_right (by omega) hm64
    rw [Int.one_mul,show (2:Int) ^ (j % 64)=((2 ^ (j % 64):Nat):Int) by simp]
    exact IntWalk.u64_in _ ⟨Int.natCast_nonneg _,Int.ofNat_le.2 (show _≤18446744073709551615 by omega)⟩)) rfl rfl ?_
   refine Zd (ZP rfl (bits_or_u64_nat _ _ (hw.getD _) (show 2 ^ (j % 64)<2 ^ 64 from Nat.pow_lt_pow_right (by omega) hm64))) rfl rfl ?_
   refine Zd (ZJ rfl rfl rfl (j / 64) rfl (by rw [hwn]; exact hi) rfl) rfl rfl ?_
   refine Zd (Z1I rfl rfl rfl rfl rfl (by rw [hwn]; exact hi) (Nat.le_refl _)) rfl rfl ?_
   rw [hel,show setAt [PV.val (Value.int .u64 (ws.getD (j / 64) 0:Nat))] 0 (PV.val (Value.int .u64 ((ws.getD (j / 64) 0 ||| 2 ^ (j % 64):Nat):Int))).cells = [.val (.int .u64 ((ws.getD (j / 64) 0 ||| 2 ^ (j % 64):Nat):Int))] from rfl]
   simp only
   rw [Z7Y,← hv]
   generalize ws.set (j / 64) v=w2 at *
   iterate 4 (first|refine st ?_|(apply B<;>intro hb<;>try cases hb))
   refine Zj (Zw (k:=40) rfl rfl (Ze w2)) ?_
   refine go ?_
   refine Z5 rfl (Z34 w2) ?_
   exact hset
def lowN (s:Nat):Nat→Nat
 | 0=>0
 | k+1=>if s.testBit k∧1≤k then lowN s k ||| 2 ^ k else lowN s k
theorem Z2E {N:Nat} (h:N<18446744073709551616):(digs N).length≤1:=by
 by_cases h0:N=0
 · rw [h0,ZG]; simp
 · rw [Z3o h0,Nat.div_eq_of_lt h,ZG]; simp
end Go.Proofs.YtmnbbggaoembeaaGreatDoor
namespace Go.Proofs.YtmnbbggaoembeaaGreatDoor
open Go.RowKit
section
variable {P:Program} {C:Ctx} {Fr:Nat→Prop} {e:Env} {h:Heap} {n:Nat} {F:Froz} {φ:Locs} {a:Act} {w:World} {K:Nat→Env→Heap→Prop} {os:List AOper} {d:Option Nat} {Q:Exit→Nat→Env→Heap→Prop}
theorem PSpec.frame {f:FuncId} {b:Bx} {rest:List PV} {R:PV→Bx→Prop} (hs:PSpec P f b rest R) (hpb:pureLL b.elems) (hpr:pureL rest) {id:Nat} (hb:h id=some b) :
 ISpec P f n (.ptr id 0 0 :: rest) h fun n' r h'=>∃ b',n'=n∧h'=h.upd id b'∧r.pure∧pureLL b'.elems∧R r b':=by
 refine⟨hs.1,fun C e F φ a w vs s hv=>(hs.run hpb hpr hb s hv).mono ?_⟩
 rintro en w' ⟨v,r,b',F',rfl,⟨h1,h2,h3⟩,hvr,s'⟩
 exact⟨v,r,n,_,F',φ,rfl,⟨b',rfl,rfl,h1,h2,h3⟩,hvr,s'⟩
theorem Zz {f:Operand} {args:List Operand} {g:FuncId} {caps as0 rest:List PV} {b:Bx} {id:Nat} {R:PV→Bx→Prop} (hs:PSpec P g b rest R) (hf:ev e f=some (.fn g caps)) (ha:evs e args=some as0) (hr:as0++caps=.ptr id 0 0 :: rest) (hb:h id=some b) (hpb:pureLL b.elems) (hpr:pureL rest)
 (hk:∀ r b',r.pure→pureLL b'.elems→R r b'→opsK P os n (updO e d r) (h.upd id b') K):opsK P (⟨d,.call f args,none⟩ :: os) n e h K:=by
 refine Z2e hf ha (R:=fun n' r h'=>∃ b',n'=n∧h'=h.upd id b'∧r.pure∧pureLL b'.elems∧R r b') (by rw [hr]; exact hs.frame hpb hpr hb) ?_
 rintro n' r h' ⟨b',rfl,rfl,h1,h2,h3⟩
 exact hk r b' h1 h2 h3
theorem Z1t {f nt:Nat} {ac:ACode} {rs:List ARes} (hf:FnOk P f nt ac rs) {b:Bx} {rest:List PV} {R:PV→Bx→Prop} (hn:rest.length+1≤nt) (hk:∀ C:Ctx,C.dom 1→aw P C ac (retI rs fun _ r h'=>∃ b',h' 0=some b'∧r.pure∧pureLL b'.elems∧R r b') 1 (argEnv (.ptr 0 0 0 :: rest)) (heapL [(0,b)])):PSpec P f b rest R :=
 Z2d hf hn hk
theorem Zgn {rs:List ARes} {R:PV→Bx→Prop} {r:PV} {b':Bx} (hr:retAll rs e h=some r) (hp:r.pure) (hb:h 0=some b') (hpb:pureLL b'.elems) (hR:R r b'):∃ r0 r,retAll rs e h=some r0∧LoP r0 r∧∃ b',h 0=some b'∧r.pure∧pureLL b'.elems∧R r b' :=
 ⟨r,r,hr,.inl rfl,b',hb,hp,hpb,hR⟩
inductive FrzP (id:Nat) (l:List (List PV)):PV→PV→Prop
 | pure (p:PV) (hp:p.pure):FrzP id l p p
 | own:FrzP id l (.own id) (.vec l false)
 | agg (xs ys:List PV) (hl:xs.length=ys.length) (h:∀ i,i<xs.length→FrzP id l (xs.getD i pvu) (ys.getD i pvu)):FrzP id l (.agg xs) (.agg ys)
 | tup (xs ys:List PV) (hl:xs.length=ys.length) (h:∀ i,i<xs.length→FrzP id l (xs.getD i pvu) (ys.getD i pvu)):FrzP id l (.tup xs) (.tup ys)
theorem FrzP.rep {F':Froz} {id:Nat} {l:List (List PV)} (hF:∀ x v,F x=some v→F' x=some v) (hown:∀ v,Rep F φ v (.own id)→Rep F' φ v (.vec l false)) {p q:PV} (hr:FrzP id l p q):∀ {v:Value},Rep F φ v p→Rep F' φ v q:=by
 induction hr with
 | pure p hp=>exact fun h=>h.mono hF fun _ _ h=>h
 | own=>exact fun h=>hown _ h
 | agg xs ys hl _ ih =>
   intro v h
   obtain⟨vs,rfl,h1,h2,h3⟩:=h.agg_inv
   exact .agg vs ys (by rw [h1,hl]) (fun i hi=>h2 i (by rw [hl]; exact hi)) fun i hi=>ih i (by rw [hl]; exact hi) (h3 i (by rw [hl]; exact hi))
 | tup xs ys hl _ ih =>
   intro v h
   obtain⟨vs,rfl,h1,h2⟩:=h.tup_inv
   exact .tup vs ys (by rw [h1,hl]) fun i hi=>ih i (by rw [hl]; exact hi) (h2 i (by rw [hl]; exact hi))
theorem Z5n {k id:Nat} {b:Bx} {p q:PV} (hk:e k=some p) (hb:h id=some b) (hp:pureLL b.elems) (hq:FrzP id b.elems p q):Sub C n e h n (e.upd k q) (h.del id):=by
 rintro a w ⟨F,φ,s⟩
 obtain⟨hlt,hr⟩:=s.env k _ hk
 obtain⟨loc',h1,h2,h3⟩:=s.live id b hb
 have s1:St' C (fun i=>n≤i) e (h.del id) F φ a w:=s.sub (fun _ _ h=>h) (fun _ _ hh=>(Heap.del_some hh).2)
 have hput:∀ {F':Froz},St' C (fun i=>n≤i) e (h.del id) F' φ a w→Rep F' φ (a.tmps.getD k undef) q→St C (fun i=>n≤i) (e.upd k q) (h.del id) a w:=fun {F'} s2 hrep=>by
  refine⟨F',φ,{ s2 with env:=fun j p hj=>?_ }⟩
  by_cases hjk:j=k
  · subst hjk; rw [Env.upd_same] at hj; cases hj; exact⟨hlt,hrep⟩
  · rw [Env.upd_ne _ _ hjk] at hj; exact s2.env j p hj
 rcases h2 with h2|h2
 case inr =>
  refine hput s1 (hq.rep (fun _ _ h=>h) (fun v hv=>?_) hr)
  obtain⟨loc,hl,hz,rfl⟩:=hv.own_inv
  obtain rfl:loc'=loc:=by rw [h1] at hl; simpa using hl
  have:=h2.pos
  omega
 by_cases hc0:loc'.cap=0
 · have hl0 : loc'.len = 0 := by have := h2.cap; omega
   have he0:b.elems = []:=List.eq_nil_of_length_eq_zero (by rw [h2.len,hl0])
   refine hput s1 (hq.rep (fun _ _ h=>h) (fun v hv=>?_) hr)
   obtain⟨loc,hl,hz,rfl⟩:=hv.own_inv
   obtain rfl:loc'=loc:=by rw [h1] at hl; simpa using hl
   rw [he0,hl0,hc0]
   cases hbs:loc'.base with
   | none=>exact .vecnil false
   | some x=>exact .vec (F:=F) (φ:=φ) x 0 0 [] false (fun _ _=>undef) (fun h=>absurd rfl h) (Nat.le_refl _) (by simp) (by simp) (by simp) (by simp) (by simp)
 · obtain ⟨ad, hbase, hs, cells, ct, hg, hroom, hrep⟩ := h2.room hc0
   have hhas:loc'.has ad.block:=⟨hc0,ad,hbase,rfl⟩
   have s2:=s1.frz hg (h3 _ hhas).2 (s.del_no hb h1 hhas) (h3 _ hhas).1
   have hx:=Z1e (h3 _ hhas).2 cells
   refine hput s2 (hq.rep hx (fun v hv=>?_) hr)
   obtain⟨loc,hl,hz,rfl⟩:=hv.own_inv
   obtain rfl:loc'=loc:=by rw [h1] at hl; simpa using hl
   rw [hbase,← h2.len]
   have hlt2:∀ i j,i<b.elems.length→j<loc'.esz→ad.off+(i*loc'.esz+j)<cells.size:=fun i j hi hj=>by
    have:=Z1o (n:=loc'.cap) (i:=i) (j:=j) (esz:=loc'.esz) (by have:=h2.cap; have:=h2.len;omega) hj
    omega
   refine .vec ad loc'.cap loc'.esz b.elems false (fun i j=>cells.getD (ad.off+(i*loc'.esz+j)) undef) (fun _=>hs) (by rw [h2.len]; exact h2.cap) (by simp) (by rw [h2.len]; exact h2.max) (fun i hi=>h2.el _ (by simp [List.getD_eq_getElem?_getD,hi])) (fun i j hi hj=>?_) (fun i j hi hj=>?_)
   · exact Z1i F _ _ (hlt2 i j hi hj) (hrep i j (by rw [← h2.len]; exact hi) hj).1
   · exact (hrep i j (by rw [← h2.len]; exact hi) hj).2.mono hx fun _ _ h=>h
theorem Z5o {id:Nat} {b:Bx} {i0 j0:Nat} (hb:h id=some b) (hi0:i0<b.elems.length) (hj0:j0<(b.elems.getD i0 []).length) (hcell:(b.elems.getD i0 []).getD j0 pvu=.vec [] true) (esz:Nat) (hp:0<esz) (hn:id<n) (hz:0<b.esz:=by exact Nat.le_of_ble_eq_true rfl) :
 Sub C n e h (n+1) e ((h.upd id ⟨b.esz,b.elems.set i0 ((b.elems.getD i0 []).set j0 (.own n))⟩).upd n ⟨esz,[]⟩):=by
 rintro a w ⟨F,φ,s⟩
 obtain⟨loc,h1,h2,h3⟩:=s.live id b hb
 have h2:=h2.cellsB hz
 have hcl:(b.elems.getD i0 []).length=loc.esz:=h2.el _ (by simp [List.getD_eq_getElem?_getD,hi0])
 have hc0:loc.cap≠0:=by have:=h2.cap; have:=h2.len; omega
 obtain⟨ad,hbase,hs,cells,ct,hg,hroom,hrep⟩:=h2.room hc0
 have hr0:=(hrep i0 j0 (by rw [← h2.len]; exact hi0) (by rw [← hcl]; exact hj0)).2
 rw [hcell] at hr0
 have hbase':∃ base,cells.getD (ad.off+(i0*loc.esz+j0)) undef=.slice base 0 0:=by
  rcases hr0.vec_inv with⟨_,h⟩|⟨x,cap,esz',cs,h,_,_,hf,_⟩
  · exact⟨none,h⟩
  · exact⟨some x,by rw [h,hf rfl]; rfl⟩
 obtain⟨base,hbs⟩:=hbase'
 have s':=s.allocNil (Nat.le_refl n) base esz hp
 have hfr:∀ i,n+1≤i→n≤i∧i≠n:=fun i hi=>⟨by omega,by omega⟩
 have s2:=s'.weaken hfr
 have hne:id≠n:=by omega
 have hx:=Z1a (s.free n (Nat.le_refl n)) ⟨base,esz,0,0⟩
 refine⟨F,_,{ s2 with live:=fun i bi hi=>?_,sep:=fun i j bi bj li lj k hi hj hli hlj hki hkj=>?_ }⟩
 · by_cases hin : i = n
   · subst hin
     rw [Heap.upd_same] at hi
     cases hi
     exact s2.live i _ (by rw [Heap.upd_same])
   · rw [Heap.upd_ne _ _ hin] at hi
     by_cases hid:i=id
     · subst hid
       rw [Heap.upd_same] at hi
       cases hi
       refine⟨loc,hx _ _ h1,?_,h3⟩
       refine .inl ⟨h2.esz,h2.pos,by simpa using h2.len,h2.cap,h2.max,fun c hc=>?_,fun _=>⟨ad,hbase,hs,cells,ct,hg,hroom,fun i' j' hi' hj'=>?_⟩⟩
       · rcases List.mem_or_eq_of_mem_set hc with h | h
         · exact h2.el c h
         · rw [h,List.length_set]; exact hcl
       · refine ⟨(hrep i' j' hi' hj').1, ?_⟩
         by_cases hii:i'=i0
         · subst hii
           have e1:(b.elems.set i' ((b.elems.getD i' []).set j0 (.own n))).getD i' []=(b.elems.getD i' []).set j0 (.own n):=by
            rw [List.getD_eq_getElem?_getD,List.getElem?_set]; simp [hi0]
           rw [e1]
           by_cases hjj:j'=j0
           · subst hjj
             have e2:((b.elems.getD i' []).set j' (.own n)).getD j' pvu=.own n:=by
              rw [List.getD_eq_getElem?_getD,List.getElem?_set,if_pos rfl,if_pos hj0]; rfl
             rw [e2,hbs]
             exact .own n ⟨base,esz,0,0⟩ (by simp [locUpd]) hp
           · have e2 : ((b.elems.getD i' []).set j0 (.own n)).getD j' pvu = (b.elems.getD i' []).getD j' pvu := by
              rw [List.getD_eq_getElem?_getD,List.getElem?_set,if_neg (Ne.symm hjj),← List.getD_eq_getElem?_getD]
             rw [e2]
             exact (hrep i' j' hi' hj').2.mono (fun _ _ h=>h) hx
         · have e1 : (b.elems.set i0 ((b.elems.getD i0 []).set j0 (.own n))).getD i' [] = b.elems.getD i' [] := by
            rw [List.getD_eq_getElem?_getD,List.getElem?_set,if_neg (Ne.symm hii),← List.getD_eq_getElem?_getD]
           rw [e1]
           exact (hrep i' j' hi' hj').2.mono (fun _ _ h=>h) hx
     · rw [Heap.upd_ne _ _ hid] at hi
       exact s2.live i bi (by rw [Heap.upd_ne _ _ hin]; exact hi)
 · have conv : ∀ {i : Nat} {bi : Bx}, ((h.upd id ⟨b.esz, b.elems.set i0 ((b.elems.getD i0 []).set j0 (.own n))⟩).upd n ⟨esz, []⟩) i = some bi → ∃ b0, (h.upd n ⟨esz, []⟩) i = some b0 := by
    intro i bi hi
    by_cases hin:i=n
    · subst hin; exact⟨_,Heap.upd_same _ _ _⟩
    · rw [Heap.upd_ne _ _ hin] at hi ⊢
      by_cases hid:i=id
      · subst hid; exact⟨b,hb⟩
      · rw [Heap.upd_ne _ _ hid] at hi; exact⟨bi,hi⟩
   obtain⟨b1,g1⟩:=conv hi
   obtain⟨b2,g2⟩:=conv hj
   exact s2.sep i j b1 b2 li lj k g1 g2 hli hlj hki hkj
theorem Z1W {id:Nat} {b:Bx} {i0 j0:Nat} (hb:h id=some b) (hi0:i0<b.elems.length) (hj0:j0<(b.elems.getD i0 []).length) (hcell:(b.elems.getD i0 []).getD j0 pvu=.vec [] true) (esz:Nat) (hp:0<esz) (hn:id<n) (hz:0<b.esz:=by exact Nat.le_of_ble_eq_true rfl) :
 SubA n e h (n+1) e ((h.upd id ⟨b.esz,b.elems.set i0 ((b.elems.getD i0 []).set j0 (.own n))⟩).upd n ⟨esz,[]⟩):=fun _=>Z5o hb hi0 hj0 hcell esz hp hn hz
theorem Zfw {X:Type} {m:Nat} (hdom:C.dom m) (A:X→Prop) (N:Nat) (L:X→List (Nat×PV)) (HL:X→List (Nat×Bx)) {x y:ACode} (hm:m≤N) (h1:aw P C x (thenQ (fun n e h=>∃ z,A z∧EnvR e N (L z)∧HeapR h N (HL z)) Q) n e h) (h2:∀ z,A z→aw P C y Q N (envL (L z)) (heapL (HL z))):aw P C (.seq x y) Q n e h :=
 Zt (Z4s h1 fun ex n e h hq=>by
  cases ex with
  | normal=>obtain⟨z,ha,he,hh⟩:=hq; exact Z72 hdom (L z) (HL z) hm he hh (h2 z ha)
  | _=>exact hq)
def mv (k k':Nat):Nat→Nat:=fun i=>bif Nat.beq i k then k' else i
theorem Z6k {k k' m:Nat} (h:m≤k):∀ i,i<m→mv k k' i=i:=by
 intro i hi
 have e1:Nat.beq i k=false:=Bool.eq_false_iff.2 fun hb=>by have:=Nat.eq_of_beq_eq_true hb; omega
 unfold mv
 rw [e1]; rfl
theorem ZR {ρ:Nat→Nat} {HL:List (Nat×Bx)} (h:((HL.map Prod.fst).all fun x=>(HL.map Prod.fst).all fun y => !(Nat.beq (ρ x) (ρ y))||Nat.beq x y)=true):InjOn ρ HL:=by
 intro q hq q' hq' he
 have h1:=List.all_eq_true.1 h q.1 (List.mem_map_of_mem hq)
 have h2:=List.all_eq_true.1 h1 q'.1 (List.mem_map_of_mem hq')
 rw [he] at h2
 have e1:Nat.beq (ρ q'.1) (ρ q'.1)=true:=Nat.beq_refl _
 rw [e1] at h2
 exact Nat.eq_of_beq_eq_true (by simpa using h2)
theorem Z14 {HL:List (Nat×Bx)}:InjOn (fun i=>i) HL:=fun _ _ _ _ h=>h
def RenLs (ρ:Nat→Nat) (D:Nat→Prop):List PV→List PV→Prop
 | [],[]=>True
 | a :: r,b :: s=>RenP ρ D a b∧RenLs ρ D r s
 | _,_=>False
theorem RenLs.get {ρ:Nat→Nat} {D:Nat→Prop}:∀ {l m:List PV},RenLs ρ D l m→l.length=m.length∧∀ j,j<m.length→RenP ρ D (l.getD j pvu) (m.getD j pvu)
 | [],[],_=>⟨rfl,fun j hj=>by simp at hj⟩
 | a :: r, b :: s, h => by
   obtain⟨h1,h2⟩:=RenLs.get h.2
   refine⟨by simp [h1],fun j hj=>?_⟩
   cases j with
   | zero=>exact h.1
   | succ j=>exact h2 j (by simpa using hj)
 | [],_ :: _,h=>h.elim
 | _ :: _,[],h=>h.elim
theorem RenB.single {ρ:Nat→Nat} {D:Nat→Prop} {esz:Nat} {l0 l:List PV} (h:RenLs ρ D l0 l) (hl:l.length=esz):RenB ρ D ⟨esz,[l0]⟩ ⟨esz,[l]⟩:=by
 obtain⟨h1,h2⟩:=h.get
 by_cases hz:esz=0
 · subst hz
   obtain rfl:l = []:=List.eq_nil_of_length_eq_zero hl
   obtain rfl:l0 = []:=List.eq_nil_of_length_eq_zero h1
   exact .same _ ⟨trivial,trivial⟩
 refine .gen _ _ (Nat.pos_of_ne_zero hz) rfl rfl (fun i hi=>?_) fun i j hi hj=>?_
 · have : i = 0 := by simpa using hi
   subst this; exact h1
 · have : i = 0 := by simpa using hi
   subst this; exact h2 j (by rw [hl]; exact hj)
end
mutual
def PV.pureB:PV→Bool
 | .val _=>true
 | .agg l=>pureLB l
 | .tup l=>pureLB l
 | .vec l _=>pureLLB l
 | .cp l=>pureLB l
 | .ptr _ _ _=>false
 | .own _=>false
 | .view _ _ _=>false
 | .sl _ _ _ _ _=>false
 | .mp _=>false
 | .fn _ l=>pureLB l
def pureLB:List PV→Bool
 | []=>true
 | p :: l=>p.pureB&&pureLB l
def pureLLB:List (List PV)→Bool
 | []=>true
 | p :: l=>pureLB p&&pureLLB l
end
mutual
theorem Z2N:∀ {p:PV},p.pureB=true→p.pure
 | .val _,_=>trivial
 | .agg l,h=>by simp only [PV.inn]; exact Z15 (by simpa [PV.pureB] using h)
 | .tup l,h=>by simp only [PV.inn]; exact Z15 (by simpa [PV.pureB] using h)
 | .vec l _,h=>by simp only [PV.inn]; exact ZW (by simpa [PV.pureB] using h)
 | .cp l,h=>by simp only [PV.inn]; exact Z15 (by simpa [PV.pureB] using h)
 | .ptr _ _ _,h=>by simp [PV.pureB] at h
 | .own _,h=>by simp [PV.pureB] at h
 | .view _ _ _,h=>by simp [PV.pureB] at h
 | .sl _ _ _ _ _,h=>by simp [PV.pureB] at h
 | .mp _,h=>by simp [PV.pureB] at h
 | .fn _ l,h=>by simp only [PV.inn]; exact Z15 (by simpa [PV.pureB] using h)
theorem Z15:∀ {l:List PV},pureLB l=true→pureL l
 | [],_=>trivial
 | p :: l, h => by
   simp only [pureLB,Bool.and_eq_true] at h
   exact⟨Z2N h.1,Z15 h.2⟩
theorem ZW:∀ {l:List (List PV)},pureLLB l=true→pureLL l
 | [],_=>trivial
 | p :: l, h => by
   simp only [pureLLB,Bool.and_eq_true] at h
   exact⟨Z15 h.1,ZW h.2⟩
end
def KpF (F:Froz) (A B:World):Prop:=(∀ x v,F x=some v→A.cell? x=some v→B.cell? x=some v)∧B.os=A.os∧B.tape=A.tape∧B.output=A.output∧A.heap.size≤B.heap.size
theorem KpF.trans {F:Froz} {A B C:World} (h:KpF F A B) (k:KpF F B C):KpF F A C :=
 ⟨fun x v hx hv=>k.1 x v hx (h.1 x v hx hv),k.2.1.trans h.2.1,k.2.2.1.trans h.2.2.1,k.2.2.2.1.trans h.2.2.2.1,Nat.le_trans h.2.2.2.2 k.2.2.2.2⟩
theorem KpF.refl (F:Froz) (A:World):KpF F A A:=⟨fun _ _ _ h=>h,rfl,rfl,rfl,Nat.le_refl _⟩
theorem KpF.grown {F:Froz} {A B:World} {row:Option Nat} (hg:A.grownBy B row) (hrow:∀ r,row=some r→∃ o:Obj,A.heap[r]?=some o∧o.isCells=false):KpF F A B :=
 ⟨fun x v _ hv=>cell_kept hv hg hrow,hg.os,hg.tape,hg.output,hg.size⟩
def IterOk (P:Program) (g:FuncId) (caps:List PV) {α:Type} (encs:α→List Value) (S Sp:List α→Prop) (M:Nat):Prop :=
 HasBody P g∧∀ (F:Froz) (w:World) (lb:Array Value) (FN:Fence) (m:Nat),FenceOk FN m→Holds F w→RepL F noLoc lb caps→SeqStopsK FN m P g lb (fun x=>(encs x).toArray) (KpF F) S Sp M w
def Ctx.apart (h:Heap) (φ:Locs) (F:Froz) (w:World) (nt:Nat):Ctx:=⟨w,fun k=>∃ i b loc,h i=some b∧φ i=some loc∧loc.has k,F,nt,φ⟩
section
variable {P:Program} {C:Ctx} {Fr Fr':Nat→Prop} {e e':Env} {h h':Heap} {F F':Froz} {φ φ':Locs} {a a':Act} {w w':World}
theorem St'.owned (s:St' C Fr e h F φ a w) {nt k:Nat} (hk:(Ctx.apart h φ F w nt).G k):(C.w0.heap.size≤k ∨ C.G k)∧((∃ cells t,w.heap[k]?=some (.cells cells t (0,0))) ∨ ∃ es t,w.heap[k]?=some (.map es t)):=by
 obtain⟨i,b,loc,hi,hl,hc⟩:=hk
 obtain⟨loc',h1,h2,h3⟩:=s.live i b hi
 obtain rfl:loc'=loc:=by rw [h1] at hl; simpa using hl
 refine⟨(h3 k hc).1,?_⟩
 exact h2.there hc
theorem St'.enter (s:St' C Fr e h F φ a w):St' (Ctx.apart h φ F w C.nt) Fr e h F φ { a with defers := [] } w:=by
 refine { nt:=s.nt,glob:=s.glob,marks:=Marks.nil rfl,loc0:=fun i x hx=>hx,free:=s.free,env:=s.env,froz:=s.froz,ext:=fun _ _ h=>h,old:=fun _ _ _=>rfl,os:=rfl,tape:=rfl,output:=rfl,size:=Nat.le_refl _,kept:=fun _ _ _=>rfl,live:=fun id b hb=>?_,sep:=s.sep }
 obtain⟨loc,h1,h2,h3⟩:=s.live id b hb
 exact⟨loc,h1,h2,fun k hk=>⟨.inr ⟨id,b,loc,hb,h1,hk⟩,(h3 k hk).2⟩⟩
theorem St'.back (s:St' C Fr e h F φ a w) {nt:Nat} (s':St' (Ctx.apart h φ F w nt) Fr' e' h' F' φ' a' w'):St' C Fr' e h' F' φ' a w':=by
 have hne:∀ k,w.heap[k]?=some (.deferred (some []))→¬ (Ctx.apart h φ F w nt).G k:=fun k hk hg=>by
  rcases (s.owned hg).2 with⟨cells,t,hc⟩|⟨es,t,hc⟩
  · rw [hk] at hc; cases hc
  · rw [hk] at hc; cases hc
 refine { nt := s.nt, glob := s'.glob, marks := s.marks.mono fun k hk => ?_, loc0 := fun i x hx => s'.loc0 i x (s.loc0 i x hx), free := s'.free, env := fun k p hp => ⟨(s.env k p hp).1, (s.env k p hp).2.mono s'.ext s'.loc0⟩, froz := s'.froz, ext := fun x v hx => s'.ext _ _ (s.ext x v hx),
          old:=fun x hx hg=>?_,os:=s'.os.trans s.os,tape:=s'.tape.trans s.tape,output:=s'.output.trans s.output,size:=Nat.le_trans s.size s'.size,kept:=fun k hk hg=>?_,live:=fun i b hi=>?_,sep:=s'.sep }
 · exact (s'.kept k (Array.getElem?_eq_some_iff.1 hk).1 (hne k hk)).trans hk
 · have hx2 : x.block < w.heap.size := Nat.lt_of_lt_of_le hx s.size
   rw [s'.old x hx2 fun hg'=>(s.owned hg').1.elim (fun h1=>absurd hx (Nat.not_lt.2 h1)) hg]
   exact s.old x hx hg
 · have := s'.kept k (Nat.lt_of_lt_of_le hk s.size) fun hg' => (s.owned hg').1.elim (fun h1 => absurd hk (Nat.not_lt.2 h1)) hg
   exact this.trans (s.kept k hk hg)
 · obtain ⟨loc, h1, h2, h3⟩ := s'.live i b hi
   refine⟨loc,h1,h2,fun k hk=>⟨?_,(h3 k hk).2⟩⟩
   rcases (h3 k hk).1 with h4|h4
   · exact .inl (Nat.le_trans s.size h4)
   · exact (s.owned h4).1
theorem St'.apart_keeps (s:St' C Fr e h F φ a w) {nt:Nat} (s':St' (Ctx.apart h φ F w nt) Fr' e' h' F' φ' a' w') (hnm:∀ i b,h i=some b→0<b.esz) (B:Nat):KeepsFrom B w w':=by
 refine⟨s'.size,fun k o _ hk ho=>?_⟩
 refine (s'.kept k (Array.getElem?_eq_some_iff.1 hk).1 fun hg=>?_).trans hk
 obtain⟨i,b,loc,hi,hl,hc⟩:=hg
 obtain⟨loc',h1,h2,h3⟩:=s.live i b hi
 obtain rfl:loc'=loc:=by rw [h1] at hl; simpa using hl
 obtain⟨hc0,x,hx,rfl⟩:=hc
 obtain⟨y,hy,_,cells,t,hg,_⟩:=(h2.cellsB (hnm i b hi)).room hc0
 obtain rfl:y=x:=by rw [hy] at hx; simpa using hx
 rw [hk] at hg
 cases hg
 cases ho
theorem St'.apart_kp (s:St' C Fr e h F φ a w) {nt:Nat} (s':St' (Ctx.apart h φ F w nt) Fr' e' h' F' φ' a' w') {F0:Froz} (h0:∀ x v,F0 x=some v→F x=some v):KpF F0 w w' :=
 ⟨fun x v hx _=>(s'.froz x v (s'.ext x v (h0 x v hx))).2.2,s'.os,s'.tape,s'.output,s'.size⟩
theorem ZcF {N nt:Nat} (hfr:∀ i,N≤i→φ i=none):(Ctx.apart h φ F w nt).dom N:=hfr
end
def envP (e:Env):List Nat→List Value→Env
 | p :: ps,v :: vs=>envP (e.upd p (.val v)) ps vs
 | _,_=>e
def actP (a:Act):List Nat→List Value→Act
 | p :: ps,v :: vs=>actP (a.put (some p) v) ps vs
 | _,_=>a
def envM (e:Env):List (Nat×Operand)→Option Env
 | []=>some e
 | (d, x) :: l => match ev e x with
   | some p=>envM (e.upd d p) l
   | none=>none
def actM (a:Act):List (Nat×Operand)→Act
 | []=>a
 | (d,x) :: l=>actM (a.put (some d) (a.eval x)) l
theorem Z5p:∀ (ps:List Nat) (vs:List Value) (a:Act),(actP a ps vs).defers=a.defers
 | [],_,_=>rfl
 | _ :: _,[],_=>rfl
 | p :: ps,v :: vs,a=>by simp only [actP]; exact Z5p ps vs _
theorem Z7Z:∀ (ps:List Nat) (vs:List Value) (a:Act),(actP a ps vs).tmps=(ps.zip vs).foldl (fun t (p,v)=>t.setIfInBounds p v) a.tmps
 | [],_,_=>rfl
 | _ :: _,[],_=>rfl
 | p :: ps,v :: vs,a=>by simp only [actP,List.zip_cons_cons,List.foldl_cons]; exact Z7Z ps vs _
section
variable {P:Program} {C:Ctx} {Fr Fr':Nat→Prop} {h h':Heap} {F F':Froz} {φ φ':Locs} {w w':World}
theorem St'.params:∀ {ps:List Nat} {vs:List Value} {e:Env} {a:Act},St' C Fr e h F φ a w→(∀ p∈ps,p<C.nt)→St' C Fr (envP e ps vs) h F φ (actP a ps vs) w
 | [],_,_,_,s,_=>s
 | _ :: _,[],_,_,s,_=>s
 | p :: ps,v :: vs,e,a,s,hps=>(s.put (hps p (by simp)) (.val v)).params fun q hq=>hps q (by simp [hq])
theorem St'.moves:∀ {l:List (Nat×Operand)} {e e':Env} {a:Act},St' C Fr e h F φ a w→(∀ q∈l,q.1<C.nt)→envM e l=some e'→St' C Fr e' h F φ (actM a l) w
 | [],e,e',a,s,_,he=>by cases he; exact s
 | (d, x) :: l, e, e', a, s, hl, he => by
   simp only [envM] at he
   split at he
   · rename_i p hp
     exact (s.put (hl _ (List.mem_cons_self ..)) (s.eval hp)).moves (fun q hq=>hl q (by simp [hq])) he
   · cases he
theorem Zaq {FN:Fence} {m:Nat} (hok:FenceOk FN m) {ops:Array Oper} {K:Act→World→Prop}:∀ {l:List Oper} {ms:List (Nat×Operand)} {a:Act},cMoves l=some ms→K (actM a ms) w→wpListIn FN m P ops (Exit.then K (fun _ _ _=>False)) l a w
 | [], ms, a, hc, hk => by
   obtain rfl : []=ms:=by simpa [cMoves] using hc
   exact hk
 | o :: r, ms, a, hc, hk => by
   have key:∀ (x:Operand) (d:Nat) (l':List (Nat×Operand)) (op:AOp),cOp P o=some op→execOp a.eval o=pure (.value (a.eval x))→o.guard=none→o.dst=some d→cMoves r=some l'→ms=(d,x) :: l'→wpListIn FN m P ops (Exit.then K (fun _ _ _=>False)) (o :: r) a w:=by
    intro x d l' op hop hex hg hd hr hms
    subst hms
    simp only [wpListIn]
    rw [if_pos (by simp [Region.wanted,hg])]
    refine⟨fun f _=>hok.fn f,?_⟩
    rw [Oper.semAt_eq FN.round a.eval o (Z1x hop),hex]
    have:=Zaq hok (ops:=ops) (a:=a.put (some d) (a.eval x)) hr hk
    rw [← hd] at this
    exact this
   simp only [cMoves] at hc
   split at hc
   · rename_i x d l' ho hg hd hr
     exact key x d l' (.mov x) (by simp [cOp,ho]) (by simp [execOp,ho]) hg hd hr (by simpa using hc.symm)
   · rename_i x d l' ho hg hd hr
     exact key x d l' (.mov x) (by simp [cOp,ho]) (by simp [execOp,ho]) hg hd hr (by simpa using hc.symm)
   · cases hc
theorem Zgo {FN:Fence} {m:Nat} (hok:FenceOk FN m) {K:Act→World→Prop} {c:Code} {ms:List (Nat×Operand)} {a:Act} (hc:cAsg c=some ms) (hk:K (actM a ms) w):c.wpIn FN m P (Exit.then K (fun _ _ _=>False)) a w:=by
 unfold cAsg at hc
 split at hc
 · cases hc
   exact wpIn_skip hk
 · exact wpIn_region_list (Zaq hok hc hk)
 · cases hc
end
def roundQ {β:Type} (B:Exit→β→Prop) (m N:Nat) (L:List (Nat×PV)) (HL:β→List (Nat×Bx)):Exit→Nat→Env→Heap→Prop :=
 fun ex _ _ h'=>(ex=.normal ∨ ex=.ret ∨ ∃ id,ex=.exit id)∧∃ z ρ,B ex z∧(∀ i,i<m→ρ i=i)∧InjOn ρ (HL z)∧EnvQ ρ (envL L) N L∧HeapQ ρ h' N (HL z)
theorem Z37 {FN:Fence} {m:Nat} (h:FenceOk FN m) (l k:Nat):FenceOk (FN.inRound l) k:=by
 refine⟨h.fn,h.depth,fun P f args w R hc=>?_⟩
 obtain⟨h1,h2⟩:=h.calls P f args w R hc
 exact CallsIn.inRound l ⟨h1,fun cs _=>h2 cs fun d hd=>by rw [h.depth] at hd; cases hd⟩
theorem Z9c {FN:Fence} {m:Nat} (h:FenceOk FN m) (k:Nat):FenceOk FN k:=by
 refine⟨h.fn,h.depth,fun P f args w R hc=>?_⟩
 obtain⟨h1,h2⟩:=h.calls P f args w R hc
 exact⟨h1,fun cs _=>h2 cs fun d hd=>by rw [h.depth] at hd; cases hd⟩
theorem Zej {FN:Fence} {m:Nat} (hd:FN.depth=none) (k:Nat) {P:Program} {c:Code} {Q:Exit→Act→World→Prop} {a:Act} {w:World} (h:c.wpIn FN k P Q a w):c.wpIn FN m P Q a w :=
 fun b kk cs hro hb _=>h b kk cs hro hb fun d hd'=>by rw [hd] at hd'; cases hd'
theorem World.grownBy_refl (W:World):W.grownBy W none:=⟨rfl,rfl,rfl,Nat.le_refl _,fun _ _ _=>rfl⟩
section
variable {P:Program} {C:Ctx} {e:Env} {h:Heap} {n:Nat} {Q:Exit→Nat→Env→Heap→Prop}
theorem Z75 {α X:Type} {m0:Nat} (hdom:C.dom m0) {f:Operand} {ps:List Nat} {asg:List (Nat×Operand)} {body:ACode} {g:FuncId} {caps:List PV} {encs:α→List Value} {S Sp:List α→Prop} {M:Nat} (L:List (Nat×PV)) (HL:X→List (Nat×Bx))
 (hf:ev (envL L) f=some (.fn g caps)) (hp:pureL caps) (hit:IterOk P g caps encs S Sp M) (henc:∀ x,(encs x).length=ps.length)
 (B:Exit→List α→X→Prop) (N:Nat) (hm:m0≤N) (z0:X) (h0:B .normal [] z0) (hs0:Sub C n e h N (envL L) (heapL (HL z0))) (hnm:∀ z,∀ q∈HL z,0<q.2.esz)
 (e2:α→Env) (he2:∀ x,envM (envP (envL L) ps (encs x)) asg=some (e2 x))
 (round:∀ (C2:Ctx),C2.dom N→∀ pre x z,B .normal pre z→pre.length<M→aw P C2 body (roundQ (fun ex z'=>B ex (pre ++ [x]) z') m0 N L HL) N (e2 x) (heapL (HL z)))
 (done:∀ xs z,S xs→B .normal xs z→Q .normal N (envL L) (heapL (HL z)))
 (stop:∀ ex pre z,Sp pre→B ex pre z→(ex=.ret ∨ ∃ id,ex=.exit id)→Q ex N (envL L) (heapL (HL z))):aw P C (.range f ps asg body) Q n e h:=by
 intro hmx FN m hokl c hc a w hs
 obtain⟨hok,hlo⟩:=hokl
 have:∃ ps' cg cb,c=.rangeFunc f ps' cg cb∧ps'.toList=ps∧cAsg cg=some asg∧cCode P C.nt cb=some body∧(∀ p∈ps,p<C.nt)∧∀ q∈asg,q.1<C.nt:=by
  unfold cCode at hc
  split at hc<;>first
   | (simp at hc; done)
   | (split at hc
      · split at hc
        · rename_i hall
          simp only [Option.some.injEq,ACode.range.injEq] at hc
          obtain⟨rfl,rfl,rfl,rfl⟩:=hc
          simp only [Bool.and_eq_true,List.all_eq_true,decide_eq_true_eq] at hall
          exact⟨_,_,_,rfl,rfl,by assumption,by assumption,hall.1,hall.2⟩
        · simp at hc
      · simp at hc)
   | ((repeat' (split at hc))<;>simp at hc; done)
 obtain⟨ps',cg,cb,rfl,rfl,hcg,hcb,hpl,hal⟩:=this
 obtain⟨F1,φ1,s1⟩:=hs0 a w hs
 obtain⟨lb,hlb,hlz,hlr⟩:=(s1.eval hf).fn_inv
 have hrep:RepL F1 noLoc lb caps:=⟨hlz,fun i hi=>(hlr i hi).pure (ZF hp i)⟩
 obtain⟨⟨fn,hfn,hname,hbody⟩,hcon⟩:=hit
 have eg:∀ args w,(callFunc g args).run P w=.ok (.enter g args) w:=fun args w=>by
  have h1 : ¬ fn.name = "runtime.NumGoroutine" := by simpa using hname
  have h2:¬ fn.body=none:=fun h=>by rw [h] at hbody; simp at hbody
  simp [callFunc,hfn,h1,h2]
 have hcon':∀ k,SeqStopsK FN k P g lb (fun x=>(encs x).toArray) (KpF F1) S Sp M w:=fun k=>hcon F1 w lb FN k (Z9c hok k) ⟨s1.froz,s1.glob⟩ hrep
 have hmk:∀ d∈a.defers,∀ D,d={ target:=.collected D,args := #[] }→D<w.heap.size:=fun d hd D hD=>by
  obtain⟨D1,e1,_,e3⟩:=s1.marks.all d hd
  rw [e1] at hD
  have:D1=D:=by simpa using hD
  rw [← this]
  exact (Array.getElem?_eq_some_iff.1 e3).1
 let I:List α→World→Prop:=fun pre W=>∃ z,B .normal pre z∧∃ F φ,(∀ x v,F1 x=some v→F x=some v)∧St' C (fun i=>N≤i) (envL L) (heapL (HL z)) F φ a W
 let Ix:Code→List α→World→Prop:=fun c pre W=>∃ ex z,((c=.ret∧ex=.ret) ∨ ∃ id,c=.exit id∧ex=.exit id)∧B ex pre z∧∃ F φ,St' C (fun i=>N≤i) (envL L) (heapL (HL z)) F φ a W
 have hnm':∀ z i b,heapL (HL z) i=some b→0<b.esz:=fun z i b hb=>hnm z (i,b) (Z1w hb)
 have turn:∀ {W W':World} {row:Option Nat} {F:Froz} {φ:Locs} {hh:Heap},St' C (fun i=>N≤i) (envL L) hh F φ a W→(∀ i b,hh i=some b→0<b.esz)→W.grownBy W' row→(∀ r,row=some r→w.heap.size≤r∧∃ o:Obj,W.heap[r]?=some o∧o.isCells=false)→St' C (fun i=>N≤i) (envL L) hh F φ a W':=by
  intro W W' row F φ hh s hnm hg hr
  refine s.turned hg (fun r he=>⟨Nat.le_trans s1.size (hr r he).1,(hr r he).2⟩) (.inl hnm) rfl ⟨s.marks.nd,fun d hd=>?_⟩
  obtain⟨D,e1,e2,e3⟩:=s.marks.all d hd
  refine⟨D,e1,e2,?_⟩
  have:=hmk d hd D e1
  rw [hg.block D (Array.getElem?_eq_some_iff.1 e3).1 (fun he=>by have:=(hr D he.symm).1;omega)]
  exact e3
 have hI:OwnFrom w.heap.size I:=by
  rintro pre W W' row ⟨z,hB,F,φ,hF,s⟩ hg hr
  exact⟨z,hB,F,φ,hF,turn s (hnm' z) hg hr⟩
 have hIx:∀ c,OwnFrom w.heap.size (Ix c):=by
  rintro c pre W W' row ⟨ex,z,hc,hB,F,φ,s⟩ hg hr
  exact⟨ex,z,hc,hB,F,φ,turn s (hnm' z) hg hr⟩
 have hI0:I [] w:=⟨z0,h0,F1,φ1,fun _ _ h=>h,s1⟩
 have hact:∀ x,({ tmps:=(ps'.zip (encs x).toArray).foldl (fun t (p,v)=>t.setIfInBounds p v) a.tmps,defers := [] }:Act)=actP { a with defers := [] } ps'.toList (encs x):=fun x=>by
  have h1:=Z7Z ps'.toList (encs x) { a with defers := [] }
  have h2:=Z5p ps'.toList (encs x) { a with defers := [] }
  have h3:(ps'.zip (encs x).toArray).foldl (fun t (p,v)=>t.setIfInBounds p v) a.tmps=(ps'.toList.zip (encs x)).foldl (fun t (p,v)=>t.setIfInBounds p v) a.tmps:=by
   rw [← Array.foldl_toList,Array.toList_zip]
  rw [h3]
  generalize actP { a with defers := [] } ps'.toList (encs x)=b at h1 h2
  obtain⟨bt,bd⟩:=b
  simp only at h1 h2
  rw [h1,h2]
 let Ax:α→Act→World→Prop:=fun x a' _=>a'=actM (actP { a with defers := [] } ps'.toList (encs x)) asg
 have hassign:∀ (k l:Nat) (pre:List α) (x:α) (W:World) (K:Act→World→Prop),I pre W→(∀ a' W',KeepsFrom w.heap.size W W'→KpF F1 W W'→I pre W'→Ax x a' W'→K a' W') →
  cg.wpIn (FN.inRound l) k P (Exit.then K (fun _ _ _=>False)) { tmps:=(ps'.zip (encs x).toArray).foldl (fun t (p,v)=>t.setIfInBounds p v) a.tmps,defers := [] } W:=by
  intro k l pre x W K hi hK
  rw [hact]
  exact Zgo (Z37 hok l k) hcg (hK _ _ (KeepsFrom.refl _ _) (KpF.refl _ _) hi rfl)
 have hround:∀ (k l:Nat) (pre:List α) (x:α) (a':Act) (W:World),(∃ r,W.heap[l]?=some (.loop r))→I pre W→Ax x a' W→pre.length<M→cb.wpIn (FN.inRound l) k P (ownPostG w.heap.size (KpF F1) I Ix (pre ++ [x]) W) a' W:=by
  rintro k l pre x a' W ⟨r,hl⟩ ⟨z,hB,F,φ,hF,s⟩ rfl hlen
  have s3:=(s.enter.params (ps:=ps'.toList) (vs:=encs x) hpl).moves hal (he2 x)
  have hlo2:LoopOk (FN.inRound l) (Ctx.apart (heapL (HL z)) φ F W C.nt):=by
   intro l' hl'
   obtain rfl:l=l':=by simpa [Fence.inRound] using hl'
   refine⟨⟨r,hl⟩,fun hg=>?_⟩
   rcases (s.owned hg).2 with⟨cells,t,hc⟩|⟨es,t,hc⟩
   · rw [hl] at hc; cases hc
   · rw [hl] at hc; cases hc
  refine wpIn_mono (round _ (ZcF s.free) pre x z hB hlen hmx (FN.inRound l) k ⟨Z37 hok l k,hlo2⟩ cb hcb _ W ⟨F,φ,s3⟩) ?_
  rintro ex a3 W3 ⟨n',e',h',⟨hex,z',ρ,hB',hρ,hinj,hEq,hHq⟩,F',φ',s4⟩
  obtain ⟨φ'',s5⟩ := (s.back s4).ren ρ hEq.mem hHq.mem hinj hdom hm hρ
  have hF':∀ x v,F1 x=some v→F' x=some v:=fun x v hx=>s4.ext x v (hF x v hx)
  rcases hex with rfl|rfl|⟨id,rfl⟩
  · exact ⟨s.apart_keeps s4 (hnm' z) _,s.apart_kp s4 hF,z',hB',F',φ'',hF',s5⟩
  · exact ⟨s.apart_keeps s4 (hnm' z) _,.ret,z',.inl ⟨rfl,rfl⟩,hB',F',φ'',s5⟩
  · exact ⟨s.apart_keeps s4 (hnm' z) _,.exit id,z',.inr ⟨id,rfl,rfl⟩,hB',F',φ'',s5⟩
 have hKb:∀ (W:World) (l:Nat) (o o':Obj),w.heap.size≤l→W.heap[l]?=some o→o.isCells=false→o.isWalk=false→KpF F1 W (W.putObj l o'):=fun W l o o' _ hl ho _=>KpF.grown (grownBy_putObj' W l o') fun r hr=>by cases hr; exact⟨o,hl,ho⟩
 have hps:∀ x,((encs x).toArray).size=ps'.size:=fun x=>by have:=henc x; simpa using this
 have hfin:∀ (a':Act) (c:Code) (ex:Exit) (W:World),((c=.ret∧ex=.ret) ∨ ∃ id,c=.exit id∧ex=.exit id)→PostA C Q ex a' W→∀ k,c.wpIn FN k P (PostA C Q) a' W:=by
  rintro a' c ex W (⟨rfl,rfl⟩|⟨id,rfl,rfl⟩) hq k
  · exact wpIn_ret hq
  · exact wpIn_exit hq
 refine Zej hok.depth (m+1) ?_
 cases hro:FN.round with
 | none =>
   have hnew:∀ (D:Nat) {W:World} {F:Froz} {φ:Locs} {hh:Heap},w.heap.size≤D→W.heap[D]?=some (.deferred (some []))→St' C (fun i=>N≤i) (envL L) hh F φ a W→St' C (fun i=>N≤i) (envL L) hh F φ { a with defers:={ target:=.collected D,args := #[] } :: a.defers } W:=by
    intro D W F φ hh hD hd s
    refine s.turned (World.grownBy_refl W) (fun r hr=>by cases hr) (.inr fun r es t hr=>by cases hr) rfl ⟨List.nodup_cons.2 ⟨fun hin=>?_,s.marks.nd⟩,fun d hd'=>?_⟩
    · have:=hmk _ hin D rfl; omega
    · rcases List.mem_cons.1 hd' with rfl | hd'
      · exact⟨D,rfl,Nat.le_trans s1.size hD,hd⟩
      · exact s.marks.all d hd'
   refine wpIn_rangeFunc_ownH hro (by omega) hlb (hok.fn g) eg (hcon' _) (fun h k=>h.trans k) hKb (Below.refl _ _) hps I Ix hI hIx hI0 Ax (fun x a' _ W W' row h _ _=>h) (fun l=>hassign _ l) (fun l pre x a' W _ hl hi hx hlen=>hround _ l pre x a' W hl hi hx hlen) ?_ ?_
   · rintro D xs W hD hS ⟨z, hB, F, φ, _, s⟩ hd
     exact⟨N,_,_,done xs z hS hB,F,φ,hnew D hD hd s⟩
   · rintro D c pre W hD hS ⟨ex, z, hcx, hB, F, φ, s⟩ hd
     refine hfin _ c ex W hcx ⟨N,_,_,stop ex pre z hS hB ?_,F,φ,hnew D hD hd s⟩ _
     rcases hcx with⟨_,h⟩|⟨id,_,h⟩
     · exact .inl h
     · exact .inr ⟨id,h⟩
 | some l₀ =>
   obtain⟨⟨r₀,hr₀⟩,hg₀⟩:=hlo l₀ hro
   have hw₀:w.heap[l₀]?=some (.loop r₀):=(s1.kept l₀ (Array.getElem?_eq_some_iff.1 hr₀).1 hg₀).trans hr₀
   refine wpIn_rangeFunc_ownN hro hw₀ (by omega) hlb (hok.fn g) eg (hcon' _) (fun h k=>h.trans k) hKb (Below.refl _ _) hps I Ix hI hIx hI0 Ax (fun x a' _ W W' row h _ _=>h) (fun l=>hassign _ l) (fun l pre x a' W _ hl hi hx hlen=>hround _ l pre x a' W hl hi hx hlen) ?_ ?_
   · rintro xs W hS ⟨z, hB, F, φ, _, s⟩
     exact⟨N,_,_,done xs z hS hB,F,φ,s⟩
   · rintro c pre W hS ⟨ex, z, hcx, hB, F, φ, s⟩
     refine hfin _ c ex W hcx ⟨N,_,_,stop ex pre z hS hB ?_,F,φ,s⟩ _
     rcases hcx with⟨_,h⟩|⟨id,_,h⟩
     · exact .inl h
     · exact .inr ⟨id,h⟩
end
def qEval (op:AOp) (e:Env):Option PV :=
 match op with
 | .mov x=>ev e x
 | .bin op .num x y => match ev e x, ev e y with
   | some (.val a),some (.val b)=>(sbin op a b).map .val
   | _,_=>none
 | .una op x => match ev e x with
   | some p=>puna op p
   | none=>none
 | .faddr off x => match ev e x with
   | some (.cp l)=>some (.cp (l.drop off))
   | _=>none
 | .load false 1 x => match ev e x with
   | some (.cp (p :: _))=>some p
   | _=>none
 | .len x => match ev e x with
   | some (.vec l _)=>some (.val (.int .i64 l.length))
   | _=>none
 | .iaddr esz x i => match ev e x, ev e i with
   | some (.vec l _), some (.val (.int _ n)) => if 0 ≤ n ∧ n < (l.length : Int) then
      (if (l.getD n.toNat []).length=esz then some (.cp (l.getD n.toNat [])) else none) else none
   | _,_=>none
 | _=>none
section
variable {P:Program} {F:Froz} {a:Act} {w:World} {e:Env} {nt:Nat}
structure Slots (nt:Nat) (F:Froz) (e:Env) (a:Act):Prop where
 sz:a.tmps.size=nt
 nd:a.defers = []
 env:∀ k p,e k=some p→k<nt∧Rep F noLoc (a.tmps.getD k undef) p
theorem Slots.eval (s:Slots nt F e a) (hF:Holds F w) {x:Operand} {p:PV} (hx:ev e x=some p):Rep F noLoc (a.eval x) p:=by
 cases x with
 | tmp t=>exact (s.env t p (by simpa [ev] using hx)).2
 | const v => obtain rfl : pvOf v = p := by simpa [ev] using hx
              exact Z24 v
 | global g =>
   simp only [ev] at hx
   split at hx
   · cases hx; exact .val _
   · rename_i v l hg
     cases hx
     have hlen:(zpv (v :: l)).length=(v :: l).length:=by simp [zpv]
     refine .cp ⟨g,0,none⟩ (zpv (v :: l)) (fun j=>(v :: l).getD j undef) rfl (fun j hj=>?_) (fun j hj=>?_)
     · have hj' : j < (v :: l).length := by rw [← hlen]; exact hj
       have e1:(globs g)[j]?=some ((v :: l).getD j undef):=by rw [hg,List.getD_eq_getElem?_getD,List.getElem?_eq_getElem hj']; rfl
       have:=hF.2 g j _ e1
       rw [Nat.zero_add]
       exact this
     · have hj' : j < (v :: l).length := by rw [← hlen]; exact hj
       have e2:(zpv (v :: l)).getD j pvu=pvOf ((v :: l).getD j undef):=by
        simp only [zpv,List.getD_eq_getElem?_getD,List.getElem?_map,List.getElem?_eq_getElem hj',Option.map_some,Option.getD_some]
       rw [e2]
       exact Z24 _
 | func f => obtain rfl : _ = p := by simpa [ev] using hx
             exact .fn f #[] [] rfl (fun i hi=>absurd hi (by simp))
theorem Slots.put (s:Slots nt F e a) {d:Nat} {v:Value} {p:PV} (hd:d<nt) (hr:Rep F noLoc v p):Slots nt F (e.upd d p) (a.put (some d) v):=by
 refine⟨by simp [Act.put,s.sz],s.nd,fun k q hq=>?_⟩
 simp only [Act.put]
 rw [ZX _ _ _ _ (by rw [s.sz]; exact hd)]
 by_cases hk:k=d
 · subst hk
   rw [Env.upd_same] at hq
   obtain rfl:p=q:=by simpa using hq
   simpa using ⟨hd,hr⟩
 · rw [Env.upd_ne _ _ hk] at hq
   simpa [hk] using s.env k q hq
theorem Slots.putO (s:Slots nt F e a) {d:Option Nat} {v:Value} {p:PV} (hd:dstOk nt d=true) (hr:Rep F noLoc v p):Slots nt F (updO e d p) (a.put d v):=by
 cases d with
 | none=>exact s
 | some d=>exact s.put (by simpa [dstOk] using hd) hr
theorem Z9d {o:Oper} {op:AOp} (hc:cOp P o=some op) (s:Slots nt F e a) (hF:Holds F w) {p:PV} (hq:qEval op e=some p):∃ val,(execOp a.eval o).run P w=.ok (.value val) w∧Rep F noLoc val p:=by
 unfold cOp at hc
 split at hc
 case h_1 x ho =>
  cases hc
  exact⟨_,by simp [execOp,ho],s.eval hF hq⟩
 case h_2 x ho =>
  cases hc
  exact⟨_,by simp [execOp,ho],s.eval hF hq⟩
 case h_4 bop t x y yt ho =>
  have key:op=.bin bop .num x y→∃ val,(execOp a.eval o).run P w=.ok (.value val) w∧Rep F noLoc val p:=by
   rintro rfl
   simp only [qEval] at hq
   split at hq
   case h_2=>cases hq
   rename_i va vb hx hy
   have ha:=(s.eval hF hx).val_inv
   have hb:=(s.eval hF hy).val_inv
   cases hs:sbin bop va vb with
   | none=>simp [hs] at hq
   | some r =>
     obtain rfl:PV.val r=p:=by simpa [hs] using hq
     have hrun:=Za6 (P:=P) (w:=w) (t:=t) (x:=x) (y:=y) hs
     have hex:execOp a.eval o=(do pure (.value (← (do eqGuard bop t x y (a.eval x) (a.eval y); binOp bop t (a.eval x) (a.eval y):Sem Value)))):=by simp only [execOp,ho]
     exact⟨r,by rw [hex,ha,hb,Sem.run_bind,hrun]; rfl,.val _⟩
  (repeat' (split at hc))<;>first|(cases hc; exact key rfl)|(cases hc; simp [qEval] at hq; done)|(cases hc; done)
 case h_5 uop t x ho =>
  cases hc
  simp only [qEval] at hq
  split at hq
  case h_2=>cases hq
  rename_i q hx
  obtain⟨val,hrun,hrep⟩:=Za7 (P:=P) (w:=w) (s.eval hF hx) hq
  exact⟨val,by simp [execOp,ho,hrun],hrep⟩
 case h_11 t x ho =>
  have hex:execOp a.eval o=(do pure (.value (← Instr.loadAt t (a.eval x)))):=by simp [execOp,ho]
  cases hl:layOf P t with
  | none=>simp [hl] at hc
  | some l =>
    obtain rfl:AOp.load l.1 l.2 x=op:=by simpa [hl] using hc
    obtain⟨agg,size⟩:=l
    cases agg with
    | true=>simp [qEval] at hq
    | false =>
      obtain⟨rfl,_⟩:=Z2b hl
      simp only [qEval] at hq
      split at hq
      case h_2=>cases hq
      rename_i p' l hx
      cases hq
      obtain⟨ad,cs,hv,hs,hFc,hR⟩:=(s.eval hF hx).cp_inv
      have hcut:cutAt false 1 0 (p :: l)=some p:=by simp [cutAt]
      obtain⟨val,hr,hrep⟩:=Z3P (w:=w) hl hs hcut (fun j hj=>by
       obtain rfl:j=0:=by omega
       exact⟨cs 0,(hF.1 _ _ (hFc 0 (by simp))).2.2,(hF.1 _ _ (hFc 0 (by simp))).2.1,hR 0 (by simp)⟩)
      exact⟨val,by rw [hex]; simp [Instr.loadAt,hv,Instr.sureAddr,hr],hrep⟩
 case h_14 t x i ho =>
  have hex:execOp a.eval o=(do pure (.value (← Instr.fieldAt t (a.eval x) i))):=by simp [execOp,ho]
  split at hc
  case h_2=>simp at hc
  rename_i fs hu
  split at hc
  case h_2=>simp at hc
  rename_i f hf
  split at hc
  case h_2=>simp at hc
  rename_i inf hi
  split at hc
  case isFalse=>simp at hc
  rename_i hp
  cases hc
  simp only [qEval] at hq
  split at hq
  case h_2=>cases hq
  rename_i l hl
  cases hq
  have hne:inf.size≠0:=by omega
  have hfp:∀ ad:Addr,(fieldPlace ad f).run P w=.ok (ad.add f.offset) w:=fun ad=>by
   simp [fieldPlace,Zf hi,hne]
  obtain⟨ad,cs,hv,hs,hFc,hR⟩:=(s.eval hF hl).cp_inv
  refine⟨.pointer (some (ad.add f.offset)),by rw [hex]; simp [Instr.fieldAt,run_underlying hu,hf,hv,Instr.sureAddr,hfp],?_⟩
  rw [ZE _ _ hs]
  refine .cp _ _ (fun j=>cs (f.offset+j)) rfl (fun j hj=>?_) (fun j hj=>?_)
  · have : f.offset + j < l.length := by simp at hj; omega
    simpa [Nat.add_assoc] using hFc _ this
  · have : f.offset + j < l.length := by simp at hj; omega
    simpa [List.getD_eq_getElem?_getD] using hR _ this
 case h_16 t x i ho =>
  have hex:execOp a.eval o=(do pure (.value (← Instr.indexAt t (a.eval x) (a.eval i)))):=by simp [execOp,ho]
  split at hc
  · rename_i el hu
    have hel:P.elem t=el:=by simp [Program.elem,hu]
    have hu':P.underlying t=some (.slice (P.elem t)):=by rw [hel]; exact hu
    cases hi:P.info? el with
    | none=>simp [hi] at hc
    | some inf =>
      obtain rfl:AOp.iaddr inf.size x i=op:=by simpa [hi] using hc
      simp only [qEval] at hq
      split at hq
      case h_2=>cases hq
      rename_i l full k n hx hn
      split at hq
      case isFalse=>cases hq
      rename_i hb
      split at hq
      case isFalse=>cases hq
      rename_i hlen
      cases hq
      have hvn:=(s.eval hF hn).val_inv
      have hlt:n.toNat<l.length:=by omega
      rcases (s.eval hF hx).vec_inv with⟨rfl,_⟩|⟨ad,cap,esz,cs,hv,hs,hcap,_,_,he,hFc,hR⟩
      · simp at hlt
      have hesz:esz=inf.size:=by rw [← hlen]; exact (he _ hlt).symm
      subst hesz
      refine⟨.pointer (some (ad.add (n.toNat*inf.size))),by
       rw [hex,hv,hvn,Sem.run_bind,run_indexAt_slice w t ad l.length cap k n hu',if_pos hb,hel,Zf hi]; rfl,?_⟩
      rw [ZE _ _ (hs (by rintro rfl; simp at hlt))]
      refine .cp _ _ (fun j=>cs n.toNat j) rfl (fun j hj=>?_) (fun j hj=>?_)
      · have := hFc n.toNat j hlt (by omega)
        simpa [Nat.add_assoc] using this
      · exact hR n.toNat j hlt (by omega)
  · simp only [Option.map_eq_some_iff] at hc
    obtain⟨_,_,rfl⟩:=hc
    simp [qEval] at hq
  · cases hc
 case h_25 c ho =>
  split at hc
  · cases hc; simp [qEval] at hq
  · rename_i hcal
    split at hc
    case h_2=>simp at hc
    rename_i t x ht hx
    have ha:c.args = #[x]:=list1 hx
    have hat:c.argTypes = #[t]:=list1 ht
    have hex:execOp a.eval o=(do pure (.value (← Builtin.len_ #[t] o.type #[a.eval x]))):=by simp [execOp,ho,resolve,hcal,invoke,builtin,ha,hat]
    split at hc
    · rename_i el hu
      cases hc
      simp only [qEval] at hq
      split at hq
      case h_2=>cases hq
      rename_i l full hxl
      cases hq
      rcases (s.eval hF hxl).vec_inv with⟨rfl,hv⟩|⟨ad,cap,esz,cs,hv,_⟩
      · exact⟨.int .i64 0,by rw [hex]; simp [Builtin.len_,run_underlying hu,hv,goInt],.val _⟩
      · exact⟨.int .i64 l.length,by rw [hex]; simp [Builtin.len_,run_underlying hu,hv,goInt],.val _⟩
    all_goals ((repeat' (split at hc))<;>first
    | (cases hc; done)
    | (cases hc; simp [qEval] at hq; done)
    | (simp at hc; done)
    | (simp only [Option.map_eq_some_iff] at hc; obtain⟨_,_,rfl⟩:=hc; simp [qEval] at hq; done))
  all_goals ((repeat' (split at hc))<;>first
   | (cases hc; done)
   | (cases hc; simp [qEval] at hq; done)
   | (simp at hc; done)
   | (simp only [Option.map_eq_some_iff] at hc; obtain⟨_,_,rfl⟩:=hc; simp [qEval] at hq; done))
 all_goals ((repeat' (split at hc))<;>first
  | (cases hc; done)
  | (cases hc; simp [qEval] at hq; done)
  | (simp at hc; done)
  | (simp only [Option.map_eq_some_iff] at hc; obtain⟨_,_,rfl⟩:=hc; simp [qEval] at hq; done))
end
structure JC (α:Type) where
 FN:Fence
 m:Nat
 nt:Nat
 F:Froz
 B:Nat
 K:Bool→List α→World→Prop
 l:Nat
 N:Nat
 encs:α→List Value
 Sp:List α→Prop
structure JC.Ok {α:Type} (Y:JC α) (P:Program):Prop where
 fence:FenceOk Y.FN Y.m
 round:Y.FN.round=none
 grow:∀ b pre W W',Y.K b pre W→W.grownBy W' none→Y.K b pre W'
 yield:∀ pre x W,Y.K true pre W→pre.length<Y.N→YieldAt Y.FN (Y.m-1) P Y.l (Y.encs x).toArray W fun e W' =>
  (e=.returned (.bool true)∧Y.K true (pre ++ [x]) W'∧KpF Y.F W W') ∨ (e=.returned (.bool false)∧Y.K false (pre ++ [x]) W')
section
variable {α:Type} {P:Program} {Y:JC α}
def JSt (Y:JC α) (b:Bool) (pre:List α) (e:Env) (a:Act) (w:World):Prop:=Slots Y.nt Y.F e a∧Holds Y.F w∧Y.K b pre w
def PostJ (Y:JC α) (Q:Exit→List α→Env→Prop) (x:Exit) (a:Act) (w:World):Prop:=(∃ pre e,Q x pre e∧JSt Y true pre e a w) ∨ (x=.ret∧∃ pre,Y.Sp pre∧Y.K false pre w∧a.defers = [])
def jw (P:Program) (Y:JC α) (ac:ACode) (Q:Exit→List α→Env→Prop) (pre:List α) (e:Env):Prop :=
 Y.Ok P→∀ c,cCode P Y.nt c=some ac→∀ a w,JSt Y true pre e a w→c.wpIn Y.FN Y.m P (PostJ Y Q) a w
def jthen (next:List α→Env→Prop) (Q:Exit→List α→Env→Prop):Exit→List α→Env→Prop
 | .normal=>next
 | x=>Q x
def jblock (id:Nat) (Q:Exit→List α→Env→Prop):Exit→List α→Env→Prop
 | .exit id'=>bif Nat.beq id' id then Q .normal else Q (.exit id')
 | x=>Q x
variable {Q:Exit→List α→Env→Prop} {pre:List α} {e:Env}
theorem Z3H (hk:Q .normal pre e):jw P Y .skip Q pre e:=by
 intro hY c hc a w hs
 have:c=.skip:=by
  unfold cCode at hc
  split at hc<;>first|rfl|(simp at hc; done)|((repeat' (split at hc))<;>simp at hc)
 subst this
 exact wpIn_skip (.inl ⟨pre,e,hk,hs⟩)
theorem Z4u {id:Nat} (hk:Q (.exit id) pre e):jw P Y (.exit id) Q pre e:=by
 intro hY c hc a w hs
 have:c=.exit id:=by
  unfold cCode at hc
  split at hc<;>first|(simp at hc; subst hc; rfl)|(simp at hc; done)|((repeat' (split at hc))<;>simp at hc)
 subst this
 exact wpIn_exit (.inl ⟨pre,e,hk,hs⟩)
theorem Z6l (hk:Q .ret pre e):jw P Y .ret Q pre e:=by
 intro hY c hc a w hs
 have:c=.ret:=by
  unfold cCode at hc
  split at hc<;>first|rfl|(simp at hc; done)|((repeat' (split at hc))<;>simp at hc)
 subst this
 exact wpIn_ret (.inl ⟨pre,e,hk,hs⟩)
theorem Z41 {x y:ACode} (hk:jw P Y x (jthen (jw P Y y Q) Q) pre e):jw P Y (.seq x y) Q pre e:=by
 intro hY c hc a w hs
 have:∃ c1 c2,c=.seq c1 c2∧cCode P Y.nt c1=some x∧cCode P Y.nt c2=some y:=by
  unfold cCode at hc
  split at hc<;>first
   | (split at hc<;>first|(simp at hc; obtain⟨rfl,rfl⟩:=hc; exact⟨_,_,rfl,by assumption,by assumption⟩)|(simp at hc; done)|((repeat' (split at hc))<;>simp at hc; done))
   | (simp at hc; done)
 obtain⟨c1,c2,rfl,h1,h2⟩:=this
 refine wpIn_seq (wpIn_mono (hk hY c1 h1 a w hs) fun x a w hp=>?_)
 rcases hp with⟨pre,e,hQ,hS⟩|⟨rfl,hS⟩
 · cases x with
   | normal=>exact hQ hY c2 h2 a w hS
   | _=>exact .inl ⟨pre,e,hQ,hS⟩
 · exact .inr ⟨rfl,hS⟩
theorem Z1J {c:Operand} {x y:ACode} {b:Bool} (hc:ev e c=some (.val (.bool b))) (ht:b=true→jw P Y x Q pre e) (hf:b=false→jw P Y y Q pre e):jw P Y (.cond c x y) Q pre e:=by
 intro hY cc hcc a w hs
 have:∃ c1 c2,cc=.cond c c1 c2∧cCode P Y.nt c1=some x∧cCode P Y.nt c2=some y:=by
  unfold cCode at hcc
  split at hcc<;>first
   | (split at hcc<;>first|(simp at hcc; obtain⟨rfl,rfl,rfl⟩:=hcc; exact⟨_,_,rfl,by assumption,by assumption⟩)|(simp at hcc; done)|((repeat' (split at hcc))<;>simp at hcc; done))
   | (simp at hcc; done)
 obtain⟨c1,c2,rfl,h1,h2⟩:=this
 refine wpIn_cond_split (hs.1.eval hs.2.1 hc).val_inv (fun hb=>ht hb hY c1 h1 a w hs) (fun hb=>hf hb hY c2 h2 a w hs)
theorem Z2O {id:Nat} {x:ACode} (hk:jw P Y x (jblock id Q) pre e):jw P Y (.block id x) Q pre e:=by
 intro hY c hc a w hs
 have:∃ c1,c=.block id c1∧cCode P Y.nt c1=some x:=by
  unfold cCode at hc
  split at hc<;>first
   | (split at hc<;>first|(simp at hc; obtain⟨rfl,rfl⟩:=hc; exact⟨_,rfl,by assumption⟩)|(simp at hc; done)|((repeat' (split at hc))<;>simp at hc; done))
   | (simp at hc; done)
 obtain⟨c1,rfl,h1⟩:=this
 refine wpIn_block (wpIn_mono (hk hY c1 h1 a w hs) fun x a w hp=>?_)
 rcases hp with⟨pre,e,hQ,hS⟩|⟨rfl,hS⟩
 · cases x with
   | exit id' =>
     simp only [jblock] at hQ
     simp only [Exit.inBlock]
     by_cases hid:id'=id
     · subst hid
       have hb:Nat.beq id' id'=true:=by simp
       rw [hb] at hQ
       rw [if_pos rfl]
       exact .inl ⟨pre,e,hQ,hS⟩
     · have hb : Nat.beq id' id = false := Bool.eq_false_iff.2 fun hb => hid (Nat.eq_of_beq_eq_true hb)
       rw [hb] at hQ
       rw [if_neg hid]
       exact .inl ⟨pre,e,hQ,hS⟩
   | _=>exact .inl ⟨pre,e,hQ,hS⟩
 · exact .inr ⟨rfl,hS⟩
theorem ZcG {L:List (Nat×PV)} {b:Bool} (he:EnvIn e L) {a:Act} {w:World} (hs:JSt Y b pre e a w):JSt Y b pre (envL L) a w:=⟨⟨hs.1.sz,hs.1.nd,fun k p hk=>hs.1.env k p (he.some hk)⟩,hs.2⟩
theorem Z9e {X:Type} (I:X→Prop) (μ:X→Nat) (R:X→List α) (L:X→List (Nat×PV)) {body:ACode} (x0:X) (h0:I x0) (hR:R x0=pre) (hL:EnvIn e (L x0))
 (round:∀ x,I x→jw P Y body (jthen (fun pre' e'=>∃ x',I x'∧μ x'<μ x∧R x'=pre'∧EnvIn e' (L x')) Q) (R x) (envL (L x))):jw P Y (.loop body) Q pre e:=by
 intro hY c hc a w hs
 have:∃ c1,c=.loop c1∧cCode P Y.nt c1=some body:=by
  unfold cCode at hc
  split at hc<;>first
   | (split at hc<;>first|(simp at hc; subst hc; exact⟨_,rfl,by assumption⟩)|(simp at hc; done)|((repeat' (split at hc))<;>simp at hc; done))
   | (simp at hc; done)
 obtain⟨c1,rfl,h1⟩:=this
 let p:Act→World→Nat→Prop:=fun a w k=>∃ x,I x∧μ x=k∧JSt Y true (R x) (envL (L x)) a w
 refine wpIn_loop (fun a w=>∃ k,p a w k) (fun a w=>least (p a w)) ⟨_,x0,h0,rfl,by rw [hR]; exact ZcG hL hs⟩ ?_
 rintro a w ⟨k,hk⟩
 obtain⟨⟨x,hx,hxk,hst⟩,_⟩:=Z3k hk
 refine wpIn_mono (round x hx hY c1 h1 a w hst) fun ex a' w' hp=>?_
 rcases hp with⟨pre',e',hQ,hS⟩|⟨rfl,hS⟩
 · cases ex with
   | normal =>
     obtain⟨x',hx',hlt,rfl,hE⟩:=hQ
     have hp':p a' w' (μ x'):=⟨x',hx',rfl,ZcG hE hS⟩
     refine⟨⟨_,hp'⟩,?_⟩
     have:=(Z3k hp').2
     omega
   | _=>exact .inl ⟨pre',e',hQ,hS⟩
 · exact .inr ⟨rfl,hS⟩
def jops (P:Program) (Y:JC α):List AOper→List α→Env→(List α→Env→Prop)→Prop
 | [],pre,e,K=>K pre e
 | o :: os, pre, e, K => o.guard = none ∧ ((∃ p, qEval o.op e = some p ∧ jops P Y os pre (updO e o.dst p) K) ∨
     (∃ f args g caps as0 v,o.op=.call f args∧ev e f=some (.fn g caps)∧evs e args=some as0∧pureL (as0++caps)∧Spec P g (as0++caps) (· = .val v)∧jops P Y os pre (updO e o.dst (.val v)) K))
theorem Z1F {os:List AOper} {d:Option Nat} {op:AOp} {p:PV} {K:List α→Env→Prop} (hq:qEval op e=some p) (hk:jops P Y os pre (updO e d p) K):jops P Y (⟨d,op,none⟩ :: os) pre e K:=⟨rfl,.inl ⟨p,hq,hk⟩⟩
theorem ZcH {os:List AOper} {d:Option Nat} {f:Operand} {args:List Operand} {g:FuncId} {caps as0 args':List PV} {v:Value} {K:List α→Env→Prop} (hs:Spec P g args' (· = .val v)) (hf:ev e f=some (.fn g caps)) (ha:evs e args=some as0) (hr:as0++caps=args') (hp:pureL args') (hk:jops P Y os pre (updO e d (.val v)) K):jops P Y (⟨d,.call f args,none⟩ :: os) pre e K:=by
 subst hr
 exact⟨rfl,.inr ⟨f,args,g,caps,as0,v,rfl,hf,ha,hp,hs,hk⟩⟩
theorem Z1A {K:List α→Env→Prop} (hk:K pre e):jops P Y [] pre e K:=hk
theorem Below.grownN {A B:World} (h:Below A.heap.size A B):A.grownBy B none:=⟨h.os,h.tape,h.output,h.size,fun j hj _=>h.block j hj⟩
theorem Zbe {b:Bool} {a:Act} {w:World} (hs:JSt Y b pre e a w) {f:Operand} {args:Array Operand} {g:Nat} {caps as0:List PV} (hf:ev e f=some (.fn g caps)) (has:evs e args.toList=some as0):∃ vs,a.eval f=.func (.func g) #[] vs∧RepL Y.F noLoc (args.map a.eval++vs) (as0++caps):=by
 let C:Ctx:=⟨w,fun _=>False,Y.F,Y.nt,fun _=>none⟩
 have s0:St' C (fun _=>True) e (fun _=>none) Y.F noLoc a w:=by
  refine { nt := hs.1.sz, glob := hs.2.1.2, marks := Marks.nil hs.1.nd, loc0 := fun i x hx => (by cases hx), free := fun _ _ => rfl, env := hs.1.env, froz := hs.2.1.1, ext := fun _ _ h => h, old := fun _ _ _ => rfl, os := rfl, tape := rfl, output := rfl, size := Nat.le_refl _, kept := fun _ _ _ => rfl,
           live:=fun id b hb=>(by cases hb),sep:=fun i j bi bj li lj k hi=>(by cases hi) }
 exact Z3j s0 hf has
theorem Z6m (hY:Y.Ok P) {ops:Array Oper} {K:List α→Env→Prop}:∀ {l:List Oper} {al:List AOper},cOpers P Y.nt ops l=some al→∀ {pre:List α} {e:Env} {a:Act} {w:World},JSt Y true pre e a w→jops P Y al pre e K →
 ∀ {QQ:Exit→Act→World→Prop},(∀ pre e a w,K pre e→JSt Y true pre e a w→QQ .normal a w)→wpListIn Y.FN Y.m P ops QQ l a w:=by
 intro l
 induction l with
 | nil =>
   intro al hc pre e a w hs hk QQ hQ
   obtain rfl : []=al:=by simpa [cOpers] using hc
   exact hQ pre e a w hk hs
 | cons o r ih =>
   intro al hc pre e a w hs hk QQ hQ
   simp only [cOpers] at hc
   split at hc
   case h_2=>simp at hc
   rename_i ao al' ho hl
   obtain rfl:ao :: al'=al:=by simpa using hc
   unfold cOper at ho
   split at ho
   case h_2=>simp at ho
   rename_i op g hop hg
   split at ho
   case isFalse=>simp at ho
   rename_i hdst
   cases ho
   simp only [jops] at hk
   obtain⟨hgn,hk⟩:=hk
   subst hgn
   have hgo:o.guard=none:=by
    unfold cGuard at hg
    split at hg
    · assumption
    · split at hg
      · split at hg
        · cases hg
        · cases hg
      · cases hg
   simp only [wpListIn]
   rw [if_pos (by simp [Region.wanted,hgo])]
   refine⟨fun f _=>hY.fence.fn f,?_⟩
   rw [Oper.semAt_eq Y.FN.round a.eval o (Z1x hop)]
   rcases hk with⟨p,hq,hk⟩|⟨f,args,g,caps,as0,v,hop',hf,has,hp,hsp,hk⟩
   · obtain ⟨val, hr, hrep⟩ := Z9d hop hs.1 hs.2.1 hq
     rw [hr]
     exact ih hl ⟨hs.1.putO hdst hrep,hs.2⟩ hk hQ
   · subst hop'
     obtain⟨⟨fn,hfn,hname,hbody⟩,hspec⟩:=hsp
     obtain⟨c,hoc,hcal,hargs⟩:=Z2H hop
     subst hargs
     obtain⟨vs,hvf,hrep⟩:=Zbe hs hf has
     have hrun:(execOp a.eval o).run P w=.ok (.enter g (c.args.map a.eval++vs)) w:=by
      have h1 : ¬ fn.name = "runtime.NumGoroutine" := by simpa using hname
      have h2:¬ fn.body=none:=fun h=>by rw [h] at hbody; simp at hbody
      simp [execOp,hoc,resolve,hcal,hvf,Deferred.ofValue,invoke,callFunc,hfn,h1,h2]
     rw [hrun]
     refine⟨fun hd=>by rw [hY.fence.depth] at hd; simp at hd,hY.fence.calls _ _ _ _ _ ((hspec Y.F w _ hs.2.1 hrep).mono ?_)⟩
     rintro en w' ⟨v',r',F',rfl,rfl,hvr,hbel,hF',hext,hold⟩
     obtain rfl:v'=v:=hvr.val_inv
     refine ih hl ⟨hs.1.putO hdst (.val _),⟨fun x u hx=>⟨(hs.2.1.1 x u hx).1,(hs.2.1.1 x u hx).2.1,(hF'.1 x u (hext x u hx)).2.2⟩,hs.2.1.2⟩,hY.grow _ _ _ _ hs.2.2 (Below.grownN hbel)⟩ hk hQ
theorem Z6n {al:List AOper} {c:Code} (h:cCode P Y.nt c=some (.region al)):∃ id ops,c=.region id ops false∧cOpers P Y.nt ops ops.toList=some al:=by
 unfold cCode at h
 split at h<;>first
  | (simp at h; done)
  | (split at h
     · split at h
       · simp at h; subst h; exact⟨_,_,rfl,by assumption⟩
       · split at h<;>simp at h
     · simp at h)
  | (split at h<;>simp at h; done)
  | ((repeat' (split at h))<;>simp at h; done)
theorem Z1X {al:List AOper} (hk:jops P Y al pre e (fun pre e=>Q .normal pre e)):jw P Y (.region al) Q pre e:=by
 intro hY c hc a w hs
 obtain⟨id,ops,rfl,h1⟩:=Z6n hc
 exact wpIn_region_list (Z6m hY h1 hs hk fun pre e a w hK hS=>.inl ⟨pre,e,hK,hS⟩)
theorem Z76 (ops:Array Oper) {l:List Oper}:∀ {al bl:List AOper},cOpers P Y.nt ops l=some (al++bl)→∃ l1 l2,l=l1++l2∧cOpers P Y.nt ops l1=some al∧cOpers P Y.nt ops l2=some bl:=by
 induction l with
 | nil =>
   intro al bl h
   simp [cOpers] at h
   obtain⟨rfl,rfl⟩:=h
   exact⟨[],[],rfl,rfl,rfl⟩
 | cons o r ih =>
   intro al bl h
   cases al with
   | nil=>exact⟨[],o :: r,rfl,rfl,h⟩
   | cons x al =>
     simp only [cOpers] at h
     split at h
     case h_2=>cases h
     rename_i a' l' h1 h2
     simp at h
     obtain⟨rfl,rfl⟩:=h
     obtain⟨l1,l2,rfl,g1,g2⟩:=ih h2
     exact⟨o :: l1,l2,rfl,by simp [cOpers,h1,g1],g2⟩
theorem ZM {FN:Fence} {m:Nat} {ops:Array Oper} {QQ:Exit→Act→World→Prop}:∀ {l1 l2:List Oper} {a:Act} {w:World},wpListIn FN m P ops (fun x a w=>match x with | .normal=>wpListIn FN m P ops QQ l2 a w|x=>QQ x a w) l1 a w→wpListIn FN m P ops QQ (l1++l2) a w
 | [],l2,a,w,h=>h
 | o :: r, l2, a, w, h => by
   simp only [wpListIn,List.cons_append] at h ⊢
   split
   · rename_i hw
     rw [if_pos hw] at h
     obtain⟨h1,h2⟩:=h
     refine⟨h1,?_⟩
     unfold Oper.uponIn at h2 ⊢
     split at h2
     · exact ZM h2
     · exact ZM h2
     · exact ZM h2
     · refine ⟨h2.1, h2.2.mono fun en w' hh => ?_⟩
       cases en with
       | returned v=>exact ZM hh
       | panicked chain=>exact hh
       | outgrown=>exact hh
     · exact⟨h2.1,h2.2.mono fun v w' hh=>ZM hh⟩
     · refine ⟨h2.1, h2.2.mono fun en w' hh => ?_⟩
       cases en with
       | returned v=>exact ZM hh
       | panicked chain=>exact hh
       | outgrown=>exact hh
     · exact h2
     · exact h2
   · rename_i hw
     rw [if_neg hw] at h
     exact⟨h.1,ZM h.2⟩
theorem Zek (x:α) {al:List AOper} {d1 d2:Nat} {f:Operand} {args:List Operand} (hk:jops P Y al pre e (fun pre' e'=>pre'=pre∧ev e' f=some (.val (.func (.yield Y.l) #[] #[]))∧evs e' args=some ((Y.encs x).map .val)∧pre.length<Y.N∧Y.Sp (pre ++ [x])∧Q .normal (pre ++ [x]) ((e'.upd d1 (.val (.bool true))).upd d2 (.val (.bool false))))) :
 jw P Y (.seq (.region (al ++ [⟨some d1,.call f args,none⟩,⟨some d2,.una .not (.tmp d1),none⟩])) (.cond (.tmp d2) .ret .skip)) Q pre e:=by
 intro hY c hc a w hs
 have:∃ c1 c2,c=.seq c1 c2∧cCode P Y.nt c1=some (.region (al ++ [⟨some d1,.call f args,none⟩,⟨some d2,.una .not (.tmp d1),none⟩]))∧cCode P Y.nt c2=some (.cond (.tmp d2) .ret .skip):=by
  unfold cCode at hc
  split at hc<;>first
   | (split at hc<;>first|(simp at hc; obtain⟨rfl,rfl⟩:=hc; exact⟨_,_,rfl,by assumption,by assumption⟩)|(simp at hc; done)|((repeat' (split at hc))<;>simp at hc; done))
   | (simp at hc; done)
 obtain⟨c1,c2,rfl,h1,h2⟩:=this
 have:∃ k1 k2,c2=.cond (.tmp d2) k1 k2∧cCode P Y.nt k1=some .ret∧cCode P Y.nt k2=some .skip:=by
  unfold cCode at h2
  split at h2<;>first
   | (split at h2<;>first|(simp at h2; obtain⟨rfl,rfl,rfl⟩:=h2; exact⟨_,_,rfl,by assumption,by assumption⟩)|(simp at h2; done)|((repeat' (split at h2))<;>simp at h2; done))
   | (simp at h2; done)
 obtain⟨k1,k2,rfl,g1,g2⟩:=this
 have hk1:k1=.ret:=by
  unfold cCode at g1
  split at g1<;>first|rfl|(simp at g1; done)|((repeat' (split at g1))<;>simp at g1)
 have hk2:k2=.skip:=by
  unfold cCode at g2
  split at g2<;>first|rfl|(simp at g2; done)|((repeat' (split at g2))<;>simp at g2)
 subst hk1
 subst hk2
 obtain⟨id,ops,rfl,hops⟩:=Z6n h1
 obtain⟨l1,l2,hl,ho1,ho2⟩:=Z76 ops hops
 refine wpIn_seq (wpIn_region_list ?_)
 rw [hl]
 refine ZM (Z6m hY ho1 hs hk fun pre' e' a' w' hK hS=>?_)
 obtain⟨rfl,hf,has,hlen,hSp,hQ⟩:=hK
 cases l2 with
 | nil=>simp [cOpers] at ho2
 | cons o r =>
   simp only [cOpers] at ho2
   split at ho2
   case h_2=>cases ho2
   rename_i ao al' ho hl2
   simp at ho2
   obtain⟨rfl,rfl⟩:=ho2
   cases r with
   | nil=>simp [cOpers] at hl2
   | cons o2 r2 =>
     simp only [cOpers] at hl2
     split at hl2
     case h_2=>cases hl2
     rename_i ao2 al2 hoo2 hl3
     simp at hl2
     obtain⟨rfl,rfl⟩:=hl2
     have hr2:r2 = []:=by
      cases r2 with
      | nil=>rfl
      | cons x y=>simp only [cOpers] at hl3; split at hl3<;>simp at hl3
     subst hr2
     have dst:∀ {oo:Oper} {d:Nat} {op:AOp},cOper P Y.nt ops oo=some ⟨some d,op,none⟩→oo.dst=some d∧d<Y.nt∧oo.guard=none∧cOp P oo=some op:=by
      intro oo d op h
      unfold cOper at h
      split at h
      case h_2=>simp at h
      rename_i op' g hop hg
      split at h
      case isFalse=>simp at h
      rename_i hd
      simp at h
      obtain⟨hd1,rfl,rfl⟩:=h
      refine⟨hd1,by rw [hd1] at hd; simpa [dstOk] using hd,?_,hop⟩
      unfold cGuard at hg
      split at hg
      · assumption
      · split at hg
        · split at hg
          · cases hg
          · cases hg
        · cases hg
     obtain⟨hd1,hlt1,hgd1,hop1⟩:=dst ho
     obtain⟨hd2,hlt2,hgd2,hop2⟩:=dst hoo2
     obtain⟨cc,hoc,hcal,hargs⟩:=Z2H hop1
     have hun:∃ uop t,o2.op=.unOp uop t (.tmp d1)∧uop=.not:=by
      unfold cOp at hop2
      split at hop2<;>first
       | (rename_i uop t x' ho'; simp at hop2; obtain⟨rfl,rfl⟩:=hop2; exact⟨_,_,ho',rfl⟩)
       | (simp at hop2; done)
       | ((repeat' (split at hop2))<;>simp at hop2; done)
     obtain⟨_,ut,hu2,rfl⟩:=hun
     have hvf:=(hS.1.eval hS.2.1 hf).val_inv
     have hvs:cc.args.map a'.eval=(Y.encs x).toArray:=by
      have hev:∀ {xs:List Operand} {vs:List Value},evs e' xs=some (vs.map .val)→xs.map a'.eval=vs:=by
       intro xs
       induction xs with
       | nil => intro vs h; cases vs with
         | nil=>rfl
         | cons _ _=>simp [evs] at h
       | cons y ys ih =>
         intro vs h
         simp only [evs] at h
         split at h
         case h_2=>cases h
         rename_i p l hp hl
         cases vs with
         | nil=>simp at h
         | cons v vs =>
           simp at h
           obtain⟨rfl,rfl⟩:=h
           simp only [List.map_cons]
           rw [(hS.1.eval hS.2.1 hp).val_inv,ih hl]
      have h0:=hev (xs:=cc.args.toList) (by rw [hargs]; exact has)
      apply Array.ext'
      simpa using h0
     obtain⟨fn,tmps,assign,body,hyr,hR⟩:=hY.yield pre' x w' hS.2.2 hlen
     have hrun:(execOp a'.eval o).run P w'=.ok (.round Y.l fn tmps assign body) w':=by
      have:execOp a'.eval o=Instr.yield Y.l (cc.args.map a'.eval):=by
       simp [execOp,hoc,resolve,hcal,hvf,Deferred.ofValue,invoke]
      rw [this,hvs]
      exact hyr
     simp only [wpListIn]
     rw [if_pos (by simp [Region.wanted,hgd1])]
     refine⟨fun f _=>hY.fence.fn f,?_⟩
     rw [Oper.semAt_eq Y.FN.round a'.eval o (Z1x hop1),hrun]
     refine⟨fun hd=>by rw [hY.fence.depth] at hd; simp at hd,hR.mono ?_⟩
     have step:∀ (bb:Bool) (w3:World),(wpListIn Y.FN Y.m P ops (Exit.then ((Code.cond (.tmp d2) .ret .skip).wpIn Y.FN Y.m P (PostJ Y Q)) (PostJ Y Q)) [] ((a'.put (some d1) (.bool bb)).put (some d2) (.bool (!bb))) w3) →
      wpListIn Y.FN Y.m P ops (Exit.then ((Code.cond (.tmp d2) .ret .skip).wpIn Y.FN Y.m P (PostJ Y Q)) (PostJ Y Q)) [o2] (a'.put o.dst (.bool bb)) w3:=by
      intro bb w3 h3
      simp only [wpListIn]
      rw [if_pos (by simp [Region.wanted,hgd2])]
      refine⟨fun f _=>hY.fence.fn f,?_⟩
      have hv1:(a'.put o.dst (.bool bb)).eval (.tmp d1)=.bool bb:=by
       rw [hd1]
       show (a'.tmps.setIfInBounds d1 (.bool bb)).getD d1 undef=.bool bb
       rw [ZX _ _ _ _ (by rw [hS.1.sz]; exact hlt1)]
       simp
      have hex:(execOp (a'.put o.dst (.bool bb)).eval o2).run P w3=.ok (.value (.bool (!bb))) w3:=by
       simp only [execOp,hu2,hv1]
       cases bb<;>simp [Op.unary]
      rw [Oper.semAt_eq Y.FN.round _ o2 (Z1x hop2),hex]
      simp only [Oper.uponIn]
      rw [hd2]
      rw [hd1]
      exact h3
     have ev2:∀ bb:Bool,((a'.put (some d1) (.bool bb)).put (some d2) (.bool (!bb))).eval (.tmp d2)=.bool (!bb):=by
      intro bb
      show ((a'.tmps.setIfInBounds d1 (.bool bb)).setIfInBounds d2 (.bool (!bb))).getD d2 undef=.bool (!bb)
      rw [ZX _ _ _ _ (by simp [hS.1.sz]; exact hlt2)]
      simp
     rintro en w3 (⟨rfl,hK,hkp⟩|⟨rfl,hK⟩)
     · refine step true w3 (wpIn_cond_split (t := false) (ev2 true) (fun h => by cases h) fun _ => wpIn_skip (.inl ⟨_, _, hQ, ?_, ?_, hK⟩))
       · exact (hS.1.put hlt1 (.val _)).put hlt2 (.val _)
       · exact⟨fun y u hy=>⟨(hS.2.1.1 y u hy).1,(hS.2.1.1 y u hy).2.1,hkp.1 y u hy (hS.2.1.1 y u hy).2.2⟩,hS.2.1.2⟩
     · exact step false w3 (wpIn_cond_split (t:=true) (ev2 false) (fun _=>wpIn_ret (.inr ⟨rfl,_,hSp,hK,hS.1.nd⟩)) fun h=>by cases h)
theorem Zbf {f nt:Nat} {ac:ACode} (hf:FnOk P f nt ac []) {caps:List PV} {encs:α→List Value} {S Sp:List α→Prop} {M:Nat} (hn:caps.length+1≤nt)
 (hk:∀ Y:JC α,Y.N=M→Y.encs=encs→Y.Sp=Sp→Y.nt=nt→jw P Y ac (fun x pre _=>(x=.normal ∨ x=.ret)∧S pre) [] (argEnv (.val (.func (.yield Y.l) #[] #[]) :: caps))):IterOk P f caps encs S Sp M:=by
 obtain⟨hm,fn,c,hfn,hname,hb,rfl,hc,hr⟩:=hf
 refine⟨⟨fn,hfn,hname,by rw [hb]; rfl⟩,fun F w lb FN m hok hF hrep=>?_⟩
 intro l J Jx W hbel hJ hJx hyield h0
 have hres:fn.results = #[]:=by
  cases hl:fn.results.toList with
  | nil=>simpa using hl
  | cons r rs =>
    rw [hl] at hr
    simp only [cRess] at hr
    split at hr<;>simp at hr
 show CallsIn FN.plain m P f _ W _
 refine callsIn_of_wp hfn hb (hok.fn f) ?_ rfl
 let Y:JC α:=⟨FN.plain,m,fn.ntmps,F,W.heap.size,fun b pre W'=>if b=true then J pre W' else Jx pre W',l,M,encs,Sp⟩
 have hY:Y.Ok P:=by
  refine⟨⟨hok.fn,hok.depth,fun P f args w R h=>hok.calls P f args w R h⟩,rfl,?_,?_⟩
  · intro b pre W1 W2 hK hg
    cases b with
    | true=>exact hJ pre W1 W2 none hK hg (fun r hr=>by cases hr)
    | false=>exact hJx pre W1 W2 none hK hg (fun r hr=>by cases hr)
  · intro pre x W1 hK hlen
    obtain⟨fn',tmps,assign,body,h1,h2⟩:=hyield pre x W1 hK hlen
    refine⟨fn',tmps,assign,body,h1,?_⟩
    have h2':=h2.mono (R':=fun e W'=>(e=.returned (.bool true)∧Y.K true (pre ++ [x]) W'∧KpF Y.F W1 W') ∨ (e=.returned (.bool false)∧Y.K false (pre ++ [x]) W')) (fun en W' h=>h)
    exact h2'
 have hsz:lb.size=caps.length:=hrep.1
 have hFW:Holds F W:=⟨fun x v hx=>by
  obtain⟨g1,g2,g3⟩:=hF.1 x v hx
  exact⟨g1,g2,by rw [World.cell?_of_block (w:=w) (hbel.block x.block (block_lt_of_cell g3))]; exact g3⟩,hF.2⟩
 have hS:JSt Y true [] (argEnv (.val (.func (.yield l) #[] #[]) :: caps)) { tmps:=(#[.func (.yield l) #[] #[]]++lb)++Array.replicate (fn.ntmps-(#[Value.func (.yield l) #[] #[]]++lb).size) undef,defers := [] } W:=by
  refine⟨⟨by simp [Y]; omega,rfl,fun k p hp=>?_⟩,hFW,h0⟩
  have hk:k<caps.length+1:=by have:=(List.getElem?_eq_some_iff.1 hp).1; simpa using this
  refine⟨by simp only [Y]; omega,?_⟩
  cases k with
  | zero =>
    simp [argEnv] at hp
    subst hp
    have e0:((#[Value.func (.yield l) #[] #[]]++lb)++Array.replicate (fn.ntmps-(#[Value.func (.yield l) #[] #[]]++lb).size) undef).getD 0 undef=.func (.yield l) #[] #[]:=by
     simp only [Array.getD_eq_getD_getElem?]
     rw [Array.getElem?_append_left (by simp;omega),Array.getElem?_append_left (by simp)]
     rfl
    show Rep F noLoc (((#[Value.func (.yield l) #[] #[]]++lb)++Array.replicate (fn.ntmps-(#[Value.func (.yield l) #[] #[]]++lb).size) undef).getD 0 undef) _
    rw [e0]
    exact .val _
  | succ k =>
    have hk':k<caps.length:=by omega
    have e1:((#[Value.func (.yield l) #[] #[]]++lb)++Array.replicate (fn.ntmps-(#[Value.func (.yield l) #[] #[]]++lb).size) undef).getD (k+1) undef=lb.getD k undef:=by
     simp only [Array.getD_eq_getD_getElem?]
     rw [Array.getElem?_append_left (by simp;omega),Array.getElem?_append_right (by simp)]
     simp
    have e2:caps.getD k pvu=p:=by
     have hp':caps[k]?=some p:=by simpa [argEnv] using hp
     rw [List.getD_eq_getElem?_getD,hp']; rfl
    rw [e1,← e2]
    exact hrep.2 k hk'
 refine wpIn_mono (hk Y rfl rfl rfl rfl hY c hc _ W hS) fun x a' w' hp=>?_
 have hres':∀ tmps,(results fn tmps).run P w'=.ok (.tuple #[]) w':=fun tmps=>by simp [results,hres]
 rcases hp with⟨pre,e,⟨hx,hSp⟩,hS'⟩|⟨rfl,pre,hsp,hK,hd⟩
 · have fin : a'.defers = [] ∧ ∃ v, (results fn a'.tmps).run P w' = .ok v w' ∧ ((∃ v', Ending.returned v = Ending.returned v') ∧ ((∃ xs, S xs ∧ J xs w') ∨ ∃ pre, Sp pre ∧ Jx pre w')) :=
    ⟨hS'.1.nd,_,hres' _,⟨_,rfl⟩,.inl ⟨pre,hSp,hS'.2.2⟩⟩
   rcases hx with rfl|rfl
   · exact fin
   · exact fin
 · exact⟨hd,_,hres' _,⟨_,rfl⟩,.inr ⟨pre,hsp,hK⟩⟩
end
end Go.Proofs.YtmnbbggaoembeaaGreatDoor
namespace Go.Proofs.YtmnbbggaoembeaaGreatDoor
open Go.RowKit
attribute [local irreducible] aw opsK dK
theorem Z1Y:setN 0=.agg [.vec [] false]:=by rw [setN,ZG]; rfl
theorem Z56 {N:Nat} (h:N<18446744073709551616) (h0:N≠0):digs N = [N]:=by
 rw [Z3o h0,Nat.mod_eq_of_lt h,Nat.div_eq_of_lt h,ZG]
theorem Z2P {N:Nat} (h:N<18446744073709551616) (h0:N≠0):setN N=.agg [.vec [[.val (.int .u64 (N:Int))]] false]:=by rw [setN,Z56 h h0]; rfl
theorem boolE {a b:Bool} (h:a=b):PV.val (.bool a)=PV.val (.bool b):=by rw [h]
theorem Z17 {N:Nat} (h:N<18446744073709551616):(N=0∧setN N=.agg [.vec [] false]) ∨ (N≠0∧setN N=.agg [.vec [[.val (.int .u64 (N:Int))]] false]):=by
 by_cases h0:N=0
 · subst h0; exact .inl ⟨rfl,Z1Y⟩
 · exact .inr ⟨h0,Z2P h h0⟩
def minusN (a b:Nat):Nat:=a &&& (18446744073709551615-b)
theorem ZK {a b:Nat} (ha:a<18446744073709551616) (hb:b<18446744073709551616) (i:Nat):(minusN a b).testBit i=(a.testBit i && !b.testBit i):=by
 have h:=Nat.testBit_two_pow_sub_succ (n:=64) hb i
 have e:(2:Nat) ^ 64-(b+1)=18446744073709551615-b:=by omega
 rw [e] at h
 rw [minusN,Nat.testBit_and,h]
 by_cases hi:i<64
 · simp [hi]
 · have : a.testBit i = false := Nat.testBit_lt_two_pow (Nat.lt_of_lt_of_le ha (Nat.pow_le_pow_right (n := 2) (by omega) (show 64 ≤ i by omega)))
   simp [this]
theorem Z5q {a b:Nat} (ha:a<18446744073709551616):minusN a b<18446744073709551616:=Nat.lt_of_le_of_lt Nat.and_le_left ha
theorem Z2g (a b:Nat) (ha:a<18446744073709551616) (hb:b<18446744073709551616):bits .andNot .u64 (a:Int) (b:Int)=((minusN a b:Nat):Int):=by
 have hx:minusN a b<2 ^ 64:=Z5q ha
 have h1:(BitVec.ofInt 64 (a:Int)).toNat=a:=by
  rw [BitVec.ofInt_natCast,BitVec.toNat_ofNat]; exact Nat.mod_eq_of_lt (by omega)
 have h2:(~~~(BitVec.ofInt 64 (b:Int))).toNat=18446744073709551615-b:=by
  rw [BitVec.toNat_not,BitVec.ofInt_natCast,BitVec.toNat_ofNat,Nat.mod_eq_of_lt (by omega)]
 show IntKind.u64.wrap ((BitVec.ofInt 64 (a:Int) &&& ~~~(BitVec.ofInt 64 (b:Int))).toNat:Int)=_
 rw [BitVec.toNat_and,h1,h2,IntKind.wrap_u64]
 show ((minusN a b:Nat):Int) % 18446744073709551616=_
 omega
theorem Z9f {a b:Nat} (ha:a<18446744073709551616) (hb:b<18446744073709551616):minusN a b=0↔a ||| b=b:=by
 constructor
 · intro h
   refine Nat.eq_of_testBit_eq fun i=>?_
   have:=congrArg (fun z=>Nat.testBit z i) h
   simp only [ZK ha hb,Nat.zero_testBit] at this
   rw [Nat.testBit_or]
   cases h1:a.testBit i<;>cases h2:b.testBit i<;>simp_all
 · intro h
   refine Nat.eq_of_testBit_eq fun i=>?_
   have:=congrArg (fun z=>Nat.testBit z i) h
   simp only [Nat.testBit_or] at this
   rw [ZK ha hb,Nat.zero_testBit]
   cases h1:a.testBit i<;>cases h2:b.testBit i<;>simp_all
set_option maxHeartbeats 1000000 in
theorem Z4v (N M:Nat) (hN:N<18446744073709551616) (hM:M<18446744073709551616):Spec Tryz.prog 84 [setN N,setN M] (· = .val (.bool (decide (N &&& M≠0)))):=by
 have hand:=bits_and_u64_nat N M hN hM
 rcases Z17 hN with⟨rfl,e1⟩|⟨h1,e1⟩<;>rcases Z17 hM with⟨rfl,e2⟩|⟨h2,e2⟩<;>rw [e1]<;>(try rw [e2])<;>clear e1 e2
 all_goals
  refine Z2 ok84 (Nat.le_of_ble_eq_true rfl) fun C hC=>?_
  refine Zt ?_
  refine Zh ?_
  refine Z3 rfl rfl rfl ?_
  refine Z3 rfl rfl rfl ?_
  refine go ?_
  refine Z1V 1 ?_
  (refine go ?_;repeat' (apply B<;>intro hb<;>try cases hb))
 · exact Z5 rfl trivial (boolE (by simp))
 · exact Z5 rfl trivial (boolE (by simp))
 · exact Z5 rfl trivial (boolE (by simp))
 · refine Z5 rfl trivial (boolE ?_)
   rw [hand] at hb
   have h3:¬ ((N &&& M:Nat):Int)=0:=by simpa using hb
   have h4:N &&& M≠0:=by omega
   simp [h4]
 · refine Z5 rfl trivial (boolE ?_)
   rw [hand] at hb
   have h3:((N &&& M:Nat):Int)=0:=by simpa using hb
   have h4:N &&& M=0:=by omega
   simp [h4]
set_option maxHeartbeats 1000000 in
theorem Z1K (N M:Nat) (hN:N<18446744073709551616) (hM:M<18446744073709551616):Spec Tryz.prog 75 [setN N,setN M] (· = .val (.bool (decide (N ||| M=M)))):=by
 have hand:=Z2g N M hN hM
 have hz:=Z9f hN hM
 rcases Z17 hN with⟨rfl,e1⟩|⟨h1,e1⟩<;>rcases Z17 hM with⟨rfl,e2⟩|⟨h2,e2⟩<;>rw [e1]<;>(try rw [e2])<;>clear e1 e2
 all_goals
  refine Z2 ok75 (Nat.le_of_ble_eq_true rfl) fun C hC=>?_
  refine Zt ?_
  refine Zh ?_
  refine Z3 rfl rfl rfl ?_
  refine Z3 rfl rfl rfl ?_
  refine go ?_
  refine Z1V 1 ?_
  refine go ?_
 · exact Z5 rfl trivial (boolE (by simp))
 · exact Z5 rfl trivial (boolE (by simp))
 · refine Z6 (Z1z [] 0) rfl rfl rfl ⟨⟨trivial, trivial⟩, trivial, trivial⟩ rfl ?_
   (refine go ?_;repeat' (apply B<;>intro hb<;>try cases hb))
   · exact Z5 rfl trivial (boolE (by simp;omega))
   · have h3 : bits .andNot .u64 (N : Int) ((0 : Nat) : Int) = 0 := by simpa using hb
     rw [hand] at h3
     exact absurd (hz.1 (by omega)) (by simp;omega)
 · refine Z6 (Z1z [M] 0) rfl rfl rfl ⟨⟨⟨⟨trivial, trivial⟩, trivial⟩, trivial⟩, trivial, trivial⟩ rfl ?_
   (refine go ?_;repeat' (apply B<;>intro hb<;>try cases hb))
   · have h3 : ¬ bits .andNot .u64 (N : Int) (M : Int) = 0 := by simpa using hb
     rw [hand] at h3
     have h4:¬ (N ||| M=M):=fun h=>h3 (by rw [hz.2 h]; rfl)
     exact Z5 rfl trivial (boolE (by simp [h4]))
   · have h3 : bits .andNot .u64 (N : Int) (M : Int) = 0 := by simpa using hb
     rw [hand] at h3
     have h4:N ||| M=M:=hz.1 (by omega)
     exact Z5 rfl trivial (boolE (by simp [h4]))
theorem Z4w (N:Nat) (hN:N<18446744073709551616):Spec Tryz.prog 90 [setN N] (· = .val (.bool (decide (N=0)))):=by
 rcases Z17 hN with⟨rfl,e1⟩|⟨h1,e1⟩<;>rw [e1]
 all_goals
  refine Z2 ok90 (Nat.le_of_ble_eq_true rfl) fun C hC=>?_
  refine Zt ?_
  refine Zh ?_
  refine Z3 rfl rfl rfl ?_
  refine go ?_
 · exact Z5 rfl trivial (boolE (by simp))
 · exact Z5 rfl trivial (boolE (by simp [h1]))
set_option maxHeartbeats 1000000 in
theorem Z9g (N M:Nat) (hN:N<18446744073709551616) (hM:M<18446744073709551616):Spec Tryz.prog 87 [setN N,setN M] (· = .val (.bool (decide (N=M)))):=by
 rcases Z17 hN with⟨rfl,e1⟩|⟨h1,e1⟩<;>rcases Z17 hM with⟨rfl,e2⟩|⟨h2,e2⟩<;>rw [e1]<;>(try rw [e2])<;>clear e1 e2
 all_goals
  refine Z2 ok87 (Nat.le_of_ble_eq_true rfl) fun C hC=>?_
  refine Zt ?_
  refine Zh ?_
  refine Z3 rfl rfl rfl ?_
  refine Z3 rfl rfl rfl ?_
  refine go ?_
 · refine Z1V 1 ?_
   refine go ?_
   exact Z5 rfl trivial (boolE (by simp))
 · exact Z5 rfl trivial (boolE (by simp;omega))
 · exact Z5 rfl trivial (boolE (by simp;omega))
 · refine Z1V 1 ?_
   (refine go ?_;repeat' (apply B<;>intro hb<;>try cases hb))
   · have h3 : ¬ (N : Int) = (M : Int) := by simpa using hb
     exact Z5 rfl trivial (boolE (by simp;omega))
   · have h3 : (N : Int) = (M : Int) := by simpa using hb
     exact Z5 rfl trivial (boolE (by simp;omega))
theorem Z42 {N M:Nat} (hN:N<18446744073709551616) (hM:M<18446744073709551616):N ||| M<18446744073709551616:=Nat.or_lt_two_pow (n:=64) hN hM
theorem Zfx {N M:Nat} (h:N≠0 ∨ M≠0):N ||| M≠0:=fun h0=>by
 have h1:∀ i,(N ||| M).testBit i=false:=fun i=>by rw [h0]; simp
 rcases h with h|h
 · exact h (Nat.eq_of_testBit_eq fun i=>by have:=h1 i; rw [Nat.testBit_or] at this; simp at this; simp [this.1])
 · exact h (Nat.eq_of_testBit_eq fun i=>by have:=h1 i; rw [Nat.testBit_or] at this; simp at this; simp [this.2])
set_option maxHeartbeats 2000000 in
theorem Z1Q (N M:Nat) (hN:N<18446744073709551616) (hM:M<18446744073709551616):Spec Tryz.prog 74 [setN N,setN M] (· = setN (N ||| M)):=by
 have hlt:=Z42 hN hM
 rcases Z17 hN with⟨rfl,e1⟩|⟨h1,e1⟩<;>rcases Z17 hM with⟨rfl,e2⟩|⟨h2,e2⟩<;>rw [e1]<;>(try rw [e2])<;>clear e1 e2
 all_goals
  refine Z2 ok74 (Nat.le_of_ble_eq_true rfl) fun C hC=>?_
  refine Zt ?_
  refine Zh ?_
  refine Z3 rfl rfl rfl ?_
  refine Z3 rfl rfl rfl ?_
  refine go ?_
  refine Z1V 1 ?_
  repeat' (first|refine Zj (Zw (k:=31) rfl rfl (ZW rfl)) ?_|(first|refine st ?_|(apply B<;>intro hb<;>try cases hb)))
 · exact Z5 rfl (Z2N rfl) Z1Y.symm
 · refine Zr (Z1z [] 0) rfl rfl rfl (Z15 rfl) ?_
   refine go ?_
   refine Zr (Z1z [M] 0) rfl rfl rfl (Z15 rfl) ?_
   refine Zd (ZP rfl (bits_or_u64_nat 0 M hN hM)) rfl rfl ?_
   repeat' (first|refine Zj (Zw (k:=31) rfl rfl (ZW rfl)) ?_|(first|refine st ?_|(apply B<;>intro hb<;>try cases hb)))
   exact Z5 rfl (Z2N rfl) (Z2P hlt (Zfx (.inr h2))).symm
 · refine Zr (Z1z [N] 0) rfl rfl rfl (Z15 rfl) ?_
   refine go ?_
   refine Zr (Z1z [] 0) rfl rfl rfl (Z15 rfl) ?_
   refine Zd (ZP rfl (bits_or_u64_nat N 0 hN hM)) rfl rfl ?_
   repeat' (first|refine Zj (Zw (k:=31) rfl rfl (ZW rfl)) ?_|(first|refine st ?_|(apply B<;>intro hb<;>try cases hb)))
   exact Z5 rfl (Z2N rfl) (Z2P hlt (Zfx (.inl h1))).symm
 · refine Zr (Z1z [N] 0) rfl rfl rfl (Z15 rfl) ?_
   refine go ?_
   refine Zr (Z1z [M] 0) rfl rfl rfl (Z15 rfl) ?_
   refine Zd (ZP rfl (bits_or_u64_nat N M hN hM)) rfl rfl ?_
   repeat' (first|refine Zj (Zw (k:=31) rfl rfl (ZW rfl)) ?_|(first|refine st ?_|(apply B<;>intro hb<;>try cases hb)))
   exact Z5 rfl (Z2N rfl) (Z2P hlt (Zfx (.inl h1))).symm
theorem Z5r {N i:Nat} (hN:N<18446744073709551616) (h:N.testBit i=true):i<64:=by
 rcases Nat.lt_or_ge i 64 with h' | h'
 · exact h'
 · have : N.testBit i = false := Nat.testBit_lt_two_pow (Nat.lt_of_lt_of_le hN (Nat.pow_le_pow_right (n := 2) (by omega) (show 64 ≤ i by omega)))
   rw [this] at h; cases h
theorem Zgp {N i:Nat} (h:N.testBit i=true):N≠0:=fun h0=>by rw [h0] at h; simp at h
theorem ZL {i:Nat} (h:i<64):2 ^ i<18446744073709551616:=by
 show 2 ^ i<2 ^ 64
 exact Nat.pow_lt_pow_right (by omega) h
theorem Z43 (N:Nat) (hN:N<18446744073709551616) (i:Int):Spec Tryz.prog 35 [setN N,.val (.int .i64 i)] (· = .val (.bool (decide (0≤i)&&N.testBit i.toNat))):=by
 refine (Zap (digs N) (Z2D N) i).mono fun r hr=>?_
 rw [hr]
 refine boolE ?_
 have h:=Z2f (Z2D N) i.toNat
 rw [Z55] at h
 rw [← h]
 by_cases h0:0≤i
 · by_cases h1 : i ≤ 4095
   · simp [h0,h1]
   · have : N.testBit i.toNat = false := by
      cases hb:N.testBit i.toNat with
      | false=>rfl
      | true=>have:=Z5r hN hb; omega
     simp [this]
 · simp [h0]
def withoutN (N:Nat) (i:Int):Nat:=if 0≤i∧N.testBit i.toNat=true then minusN N (2 ^ i.toNat) else N
theorem Z9h {N:Nat} (hN:N<18446744073709551616) (i:Int):withoutN N i<18446744073709551616:=by
 unfold withoutN; split
 · exact Z5q hN
 · exact hN
theorem Z2W {N:Nat} (hN:N<18446744073709551616) (i j:Nat):(withoutN N i).testBit j=(N.testBit j&&decide (j≠i)):=by
 unfold withoutN
 split
 · rename_i h
   rw [Int.toNat_natCast] at h ⊢
   rw [ZK hN (ZL (Z5r hN h.2)),Nat.testBit_two_pow]
   by_cases hji:j=i
   · subst hji; simp
   · simp [hji,Ne.symm hji]
 · rename_i h
   have h':N.testBit i=false:=by
    rw [Int.toNat_natCast] at h
    cases hb:N.testBit i with
    | false=>rfl
    | true=>exact absurd ⟨by omega,hb⟩ h
   by_cases hji:j=i
   · subst hji; simp [h']
   · simp [hji]
set_option maxHeartbeats 2000000 in
theorem Z16 (N:Nat) (hN:N<18446744073709551616) (i:Int):Spec Tryz.prog 34 [setN N,.val (.int .i64 i)] (· = setN (withoutN N i)):=by
 refine Z2 ok34 (Nat.le_of_ble_eq_true rfl) fun C hC=>?_
 refine Zt ?_
 refine Zh ?_
 refine Z3 rfl rfl rfl ?_
 refine go ?_
 refine Z6 (Z43 N hN i) rfl rfl rfl ⟨Z1 N,trivial,trivial⟩ rfl ?_
 by_cases h:0≤i∧N.testBit i.toNat=true
 case neg =>
  have hb:(decide (0≤i)&&N.testBit i.toNat)=false:=by
   cases hb:N.testBit i.toNat with
   | false=>simp
   | true=>simp only [hb,and_true] at h; simp [h]
  rw [hb]
  refine go ?_
  refine Z5 rfl (Z1 N) ?_
  rw [withoutN,if_neg h]; rfl
 obtain⟨h0,hbit⟩:=h
 obtain⟨j,rfl⟩:∃ j:Nat,i=j:=⟨i.toNat,by omega⟩
 rw [Int.toNat_natCast] at hbit
 have hj:=Z5r hN hbit
 have hne:=Zgp hbit
 have hp:=ZL hj
 have e0:withoutN N (j:Int)=minusN N (2 ^ j):=by rw [withoutN,if_pos ⟨h0,by rw [Int.toNat_natCast]; exact hbit⟩,Int.toNat_natCast]
 have hb:(decide (0≤(j:Int))&&N.testBit (j:Int).toNat)=true:=by rw [Int.toNat_natCast,hbit]; simp
 rw [hb,e0,Z2P hN hne]
 have hq:IntKind.i64.wrap ((j:Int).tdiv 64)=((0:Nat):Int):=by
  rw [IntWalk.i64_quo _ _ ⟨by omega,by omega,by omega⟩]; omega
 have hr:(j:Int).tmod 64=((j:Nat):Int):=by
  rw [Int.tmod_eq_emod_of_nonneg (by omega)]; omega
 iterate 5 (first|refine st ?_|(apply B<;>intro hb<;>try cases hb))
 (first|refine st ?_|(apply B<;>intro hb<;>try cases hb))
 refine Z5i rfl rfl rfl ?_
 iterate 2 (first|refine st ?_|(apply B<;>intro hb<;>try cases hb))
 refine ZU (ZQ (k:=1) rfl rfl rfl (fun c hc=>by
  rw [List.mem_singleton.1 hc]; rfl) rfl (by show (0+1)*8≤_;omega)) rfl rfl ?_
 refine go ?_
 rw [hq]
 iterate 3 (first|refine st ?_|(apply B<;>intro hb<;>try cases hb))
 refine Zd (ZP rfl hr) rfl rfl ?_
 refine Zd (Zcs rfl rfl (by omega) (v:=((2 ^ j:Nat):Int)) (by
  rw [show min ((j:Int)).toNat IntKind.u64.bits=j by simp [IntKind.bits]; omega]
  rw [Int.one_mul,show (2:Int) ^ j=((2 ^ j:Nat):Int) by simp]
  exact IntWalk.u64_in _ ⟨Int.natCast_nonneg _,Int.ofNat_le.2 (show _≤18446744073709551615 by omega)⟩)) rfl rfl ?_
 refine Zd (ZP rfl (Z2g N (2 ^ j) hN hp)) rfl rfl ?_
 repeat' (first|refine Zj (Zw (k:=25) rfl rfl (ZW rfl)) ?_|(first|refine st ?_|(apply B<;>intro hb<;>try cases hb)))
 refine ZY rfl rfl (Z3Z [minusN N (2 ^ j)]) (Z15 rfl) rfl fun r hr=>?_
 have hw:Words [minusN N (2 ^ j)]:=fun x hx=>by rw [List.mem_singleton.1 hx]; exact Z5q hN
 have e1:=hr.set hw
 have e2:ofW [minusN N (2 ^ j)]=minusN N (2 ^ j):=by simp [ofW]
 rw [e2] at e1
 subst e1
 refine go ?_
 exact Z5 rfl (Z1 _) rfl
def tz (x:Nat):Nat:=if h:x % 2=1 ∨ x=0 then 0 else tz (x / 2)+1
termination_by x
decreasing_by omega
theorem Z44:∀ {x:Nat},x≠0→∃ m,x=2 ^ tz x*(2*m+1):=by
 intro x
 induction x using Nat.strongRecOn with
 | _ x ih =>
   intro h0
   by_cases h:x % 2=1 ∨ x=0
   · rw [tz, dif_pos h]
     exact⟨x / 2,by omega⟩
   · rw [tz, dif_neg h]
     obtain⟨m,hm⟩:=ih (x / 2) (by omega) (by omega)
     refine⟨m,?_⟩
     rw [Nat.pow_succ,Nat.mul_assoc,Nat.mul_comm 2,← Nat.mul_assoc,← hm]
     omega
theorem Z27 (k m i:Nat):(2 ^ k*(2*m+1)).testBit i=(decide (i=k)||(decide (k<i)&&m.testBit (i-k-1))):=by
 rw [Nat.testBit_two_pow_mul]
 by_cases h:k≤i
 · obtain ⟨j, rfl⟩ : ∃ j, i = k + j := ⟨i - k, by omega⟩
   rw [show k+j-k=j by omega]
   cases j with
   | zero=>simp [Nat.testBit_zero]
   | succ j =>
     rw [Nat.add_sub_cancel]
     have e:(2*m+1).testBit (j+1)=m.testBit j:=by rw [Nat.testBit_succ]; congr 1; omega
     simp [e]
 · have h1 : ¬ i = k := by omega
   have h2:¬ k<i:=by omega
   simp [h,h1,h2]
theorem Z4O (k m i:Nat):(2 ^ k*(2*m+1)-1).testBit i=(decide (i<k)||(decide (k<i)&&m.testBit (i-k-1))):=by
 have hp:0<2 ^ k:=Nat.pos_of_ne_zero (by simp)
 have e:2 ^ k*(2*m+1)-1=2 ^ k*(2*m)+(2 ^ k-1):=by rw [Nat.mul_add]; omega
 rw [e,Nat.testBit_two_pow_mul_add _ (by omega)]
 by_cases h:i<k
 · rw [if_pos h, Nat.testBit_two_pow_sub_one]
   simp [h]
 · rw [if_neg h]
   have h':¬ i<k:=h
   obtain⟨j,rfl⟩:∃ j,i=k+j:=⟨i-k,by omega⟩
   rw [show k+j-k=j by omega]
   cases j with
   | zero=>simp [Nat.testBit_zero]
   | succ j =>
     rw [Nat.add_sub_cancel]
     have e:(2*m).testBit (j+1)=m.testBit j:=by rw [Nat.testBit_succ]; congr 1; omega
     simp [e]
     omega
theorem ZcI {x:Nat} (h:x≠0):x.testBit (tz x)=true:=by
 obtain⟨m,hm⟩:=Z44 h
 generalize tz x=k at hm ⊢
 rw [hm,Z27]; simp
theorem Zgq {x i:Nat} (h:x≠0) (hi:x.testBit i=true):tz x≤i:=by
 obtain⟨m,hm⟩:=Z44 h
 generalize tz x=k at hm ⊢
 rw [hm,Z27] at hi
 simp at hi
 omega
theorem Z45 {x:Nat} (h:x≠0) (i:Nat):(x &&& (x-1)).testBit i=(x.testBit i&&decide (i≠tz x)):=by
 obtain⟨m,hm⟩:=Z44 h
 generalize tz x=k at hm ⊢
 rw [Nat.testBit_and,hm,Z27,Z4O]
 by_cases h1:i=k
 · subst h1; simp
 · by_cases h2 : k < i
   · have h3 : ¬ i < k := by omega
     simp [h1,h2,h3]
   · simp [h1,h2]
theorem Zfy {x:Nat} (hx:x<18446744073709551616) (h:x≠0):x &&& (18446744073709551616-x)=2 ^ tz x:=by
 have hlt:=Z5r hx (ZcI h)
 obtain⟨m,hm⟩:=Z44 h
 generalize tz x=k at hm hlt ⊢
 refine Nat.eq_of_testBit_eq fun i=>?_
 have e:18446744073709551616-x=2 ^ 64-((x-1)+1):=by omega
 rw [Nat.testBit_and,e,Nat.testBit_two_pow_sub_succ (by omega),hm,Z27,Z4O,Nat.testBit_two_pow]
 by_cases h1:i=k
 · subst h1; simp [hlt]
 · have h1' : ¬ k = i := fun h => h1 h.symm
   by_cases h2:k<i
   · simp [h1, h1', h2]
     intro a _ _
     exact a
   · simp [h1,h1',h2]
theorem Zel:∀ k:Fin 64,(285870213051353865*2 ^ k.val % 18446744073709551616 / 288230376151711744)<64∧tzTab[285870213051353865*2 ^ k.val % 18446744073709551616 / 288230376151711744]?=some ((k.val:Nat):Int):=by decide
theorem Zhn {g j:Nat} {n:Nat} {e:Env} {h:Heap} {i:Operand} {k:IntKind} (hg:globs g=tzTab.map fun x=>.int .u8 x) (hi:ev e i=some (.val (.int k (j:Nat)))) (hj:j<64) :
 dEval (.iaddrA 64 1 (.global g) i) e h n=some (.cp ((zpv (tzTab.map fun x=>.int .u8 x)).drop (j*1)),h):=by
 have hev:ev e (.global g)=some (.cp (zpv (tzTab.map fun x=>.int .u8 x))):=by
  simp only [ev,hg]; rfl
 simp only [dEval,hev,hi]
 rw [if_pos ⟨by omega,by omega⟩,Int.toNat_natCast]
theorem Zh3 {j k n:Nat} {e:Env} {h:Heap} {a:Operand} (ha:ev e a=some (.cp ((zpv (tzTab.map fun x=>.int .u8 x)).drop (j*1)))) (hj:tzTab[j]?=some ((k:Nat):Int)):dEval (.load false 1 a) e h n=some (.val (.int .u8 (k:Nat)),h):=by
 have hlt:j<tzTab.length:=(List.getElem?_eq_some_iff.1 hj).1
 have hl:(zpv (tzTab.map fun x=>.int .u8 x)).drop (j*1)=.val (.int .u8 (k:Nat)) :: (zpv (tzTab.map fun x=>.int .u8 x)).drop (j+1):=by
  rw [Nat.mul_one,List.drop_eq_getElem_cons (by simp [zpv]; exact hlt)]
  congr 1
  have:=(List.getElem?_eq_some_iff.1 hj).2
  simp [zpv,pvOf,this]
 simp only [dEval,ha,hl]
 simp [cutAt]
set_option maxHeartbeats 2000000 in
theorem ZcJ (x:Nat) (hx:x<18446744073709551616) (h:x≠0):Spec Tryz.prog 129 [.val (.int .u64 (x:Int))] (· = .val (.int .i64 (tz x:Nat))):=by
 have hk:=Z5r hx (ZcI h)
 have hp:=ZL hk
 have hneg:IntKind.u64.wrap (0-(x:Int))=((18446744073709551616-x:Nat):Int):=by
  rw [IntKind.wrap_u64]; omega
 have hand:bits .and .u64 (x:Int) (IntKind.u64.wrap (0-(x:Int)))=((2 ^ tz x:Nat):Int):=by
  rw [hneg,bits_and_u64_nat _ _ hx (by omega),Zfy hx h]
 have hmul:IntKind.u64.wrap (((2 ^ tz x:Nat):Int)*285870213051353865)=((285870213051353865*2 ^ tz x % 18446744073709551616:Nat):Int):=by
  rw [IntKind.wrap_u64,Int.mul_comm]
  rfl
 obtain⟨t1,t2⟩:=Zel ⟨tz x,hk⟩
 simp only at t1 t2
 refine Z2 ok129 (Nat.le_of_ble_eq_true rfl) fun C hC=>?_
 iterate 8 (first|refine st ?_|(apply B<;>intro hb<;>try cases hb))
 refine Z93 rfl rfl rfl (v:=false) (by simp; exact h) ?_
 (first|refine st ?_|(apply B<;>intro hb<;>try cases hb))
 (first|refine st ?_|(apply B<;>intro hb<;>try cases hb))
 iterate 6 (first|refine st ?_|(apply B<;>intro hb<;>try cases hb))
 refine Z8 rfl rfl rfl hand ?_
 refine Z8 rfl rfl rfl hmul ?_
 refine Z8 rfl rfl rfl (v:=((285870213051353865*2 ^ tz x % 18446744073709551616 / 288230376151711744:Nat):Int)) ?_ ?_
 · show Int.fdiv _ (2 ^ 58) = _
   rw [Z74]
 refine Z0 (Zhn rfl rfl t1) rfl rfl ?_
 refine Z0 (Zh3 rfl t2) rfl rfl ?_
 refine Z8 rfl rfl rfl (IntWalk.i64_in _ ⟨by omega,by omega⟩) ?_
 refine go ?_
 exact Z5 rfl trivial rfl
end Go.Proofs.YtmnbbggaoembeaaGreatDoor
namespace Go.Proofs.YtmnbbggaoembeaaGreatDoor
open Go.RowKit
attribute [local irreducible] aw opsK dK jw
def mem (N:Nat):List Nat:=(List.range 64).filter fun i=>N.testBit i
theorem Z38 {N i:Nat} (hN:N<18446744073709551616):i∈mem N↔N.testBit i=true:=by
 simp only [mem,List.mem_filter,List.mem_range]
 exact⟨fun h=>h.2,fun h=>⟨Z5r hN h,h⟩⟩
theorem Z6o (N:Nat):(mem N).Pairwise (· < ·):=List.Pairwise.filter _ List.pairwise_lt_range
theorem Z5s {N i:Nat} (h:i∈mem N):i<64:=by
 simp only [mem,List.mem_filter,List.mem_range] at h; exact h.1
theorem ZcK:∀ {l m:List Nat},l.Pairwise (· < ·)→m.Pairwise (· < ·)→(∀ x,x∈l↔x∈m)→l=m
 | [],[],_,_,_=>rfl
 | [],y :: m,_,_,h=>by have:=(h y).2 (by simp); cases this
 | x :: l,[],_,_,h=>by have:=(h x).1 (by simp); cases this
 | x :: l, y :: m, hl, hm, h => by
   rw [List.pairwise_cons] at hl hm
   have hxy:x=y:=by
    have h1:=(h x).1 (by simp)
    have h2:=(h y).2 (by simp)
    rcases List.mem_cons.1 h1 with h1|h1
    · exact h1
    · rcases List.mem_cons.1 h2 with h2 | h2
      · exact h2.symm
      · have:=hm.1 x h1; have:=hl.1 y h2; omega
   subst hxy
   congr 1
   refine ZcK hl.2 hm.2 fun z=>?_
   constructor
   · intro hz
     rcases List.mem_cons.1 ((h z).1 (by simp [hz])) with hz' | hz'
     · have:=hl.1 z hz; omega
     · exact hz'
   · intro hz
     rcases List.mem_cons.1 ((h z).2 (by simp [hz])) with hz' | hz'
     · have:=hm.1 z hz; omega
     · exact hz'
theorem Zar:mem 0 = []:=by simp [mem]
theorem Zem {y:Nat} (hy:y<18446744073709551616) (h:y≠0):mem y=tz y :: mem (y &&& (y-1)):=by
 have hlt:y &&& (y-1)<18446744073709551616:=Nat.lt_of_le_of_lt Nat.and_le_left hy
 refine ZcK (Z6o y) ?_ fun z=>?_
 · rw [List.pairwise_cons]
   refine⟨fun z hz=>?_,Z6o _⟩
   rw [Z38 hlt,Z45 h] at hz
   have h1:y.testBit z=true∧z≠tz y:=by simpa using hz
   have:=Zgq h h1.1
   omega
 · rw [List.mem_cons, Z38 hy, Z38 hlt, Z45 h]
   constructor
   · intro hz
     by_cases he:z=tz y
     · exact .inl he
     · exact .inr (by simp [hz,he])
   · rintro (rfl | hz)
     · exact ZcI h
     · have h1 : y.testBit z = true ∧ z ≠ tz y := by simpa using hz
       exact h1.1
abbrev MemT (N:Nat):={ i:Nat // i∈mem N }
def encM (N:Nat) (x:MemT N):List Value := [.int .i64 (x.val:Int)]
theorem Z4x (N:Nat):Spec Tryz.prog 85 [setN N] (· = .fn 128 [.cp [.vec (words (digs N)) false]]):=by
 refine Z2 ok85 (Nat.le_of_ble_eq_true rfl) fun C hC=>?_
 refine Zt ?_
 refine Zh ?_
 refine Z3 rfl rfl rfl ?_
 refine go ?_
 exact Z5 rfl ⟨⟨Ze _,trivial⟩,trivial⟩ rfl
theorem Zen {y:Nat} (hy:y<18446744073709551616):y &&& (y-1)<18446744073709551616:=Nat.lt_of_le_of_lt Nat.and_le_left hy
theorem Zeo {y:Nat} (h:y≠0):y &&& (y-1)<y:=Nat.lt_of_le_of_lt Nat.and_le_right (by omega)
set_option maxHeartbeats 4000000 in
theorem Z77 (N:Nat) (hN:N<18446744073709551616):IterOk Tryz.prog 128 [.cp [.vec (words (digs N)) false]] (encM N) (fun xs=>xs.map (·.val)=mem N) (fun pre=>∃ t,pre.map (·.val)++t=mem N) (mem N).length:=by
 refine Zbf ok128 (Nat.le_of_ble_eq_true rfl) fun Y hYN hYe hYs hYn=>?_
 by_cases h0:N=0
 · subst h0
   rw [ZG]
   repeat' (first
    | refine Z41 ?_
    | refine Z1X ?_
    | refine Z1A ?_
    | refine Z1F rfl ?_
    | refine Z2O ?_
    | refine Z3H ?_
    | refine Z4u ?_
    | refine Z6l ?_
    | refine Z1J (b:=true) rfl (fun _=>?_) (fun h=>by cases h)
    | refine Z1J (b:=false) rfl (fun h=>by cases h) (fun _=>?_))
   refine Z9e (X:=Unit) (fun _=>True) (fun _=>0) (fun _=>[]) (fun _ => [(7,.val (.int .i64 ((0:Nat):Int))),(8,.val (.int .i64 0))]) () trivial rfl ⟨rfl,rfl,trivial⟩ ?_
   rintro⟨⟩ -
   repeat' (first
    | refine Z41 ?_
    | refine Z1X ?_
    | refine Z1A ?_
    | refine Z1F rfl ?_
    | refine Z2O ?_
    | refine Z3H ?_
    | refine Z4u ?_
    | refine Z6l ?_
    | refine Z1J (b:=true) rfl (fun _=>?_) (fun h=>by cases h)
    | refine Z1J (b:=false) rfl (fun h=>by cases h) (fun _=>?_))
   exact⟨.inl rfl,Zar.symm⟩
 rw [Z56 hN h0]
 repeat' (first
  | refine Z41 ?_
  | refine Z1X ?_
  | refine Z1A ?_
  | refine Z1F rfl ?_
  | refine Z2O ?_
  | refine Z3H ?_
  | refine Z4u ?_
  | refine Z6l ?_
  | refine Z1J (b:=true) rfl (fun _=>?_) (fun h=>by cases h)
  | refine Z1J (b:=false) rfl (fun h=>by cases h) (fun _=>?_))
 refine Z9e (X:=Bool×List (MemT N)) (fun x=>(x.1=true→x.2.map (·.val)=mem N)∧(x.1=false→x.2 = [])) (fun x=>if x.1 then 0 else 1) (fun x=>x.2)
  (fun x => [(0,.val (.func (.yield Y.l) #[] #[])),(6,.vec [[.val (.int .u64 (N:Int))]] false),(7,.val (.int .i64 ((1:Nat):Int))),(8,.val (.int .i64 (if x.1 then 1 else 0)))]) (false,[]) ⟨by simp,by simp⟩ rfl ⟨rfl,rfl,rfl,rfl,trivial⟩ ?_
 rintro⟨b,pre⟩ ⟨hb1,hb2⟩
 simp only at hb1 hb2
 cases b with
 | true =>
   repeat' (first
    | refine Z41 ?_
    | refine Z1X ?_
    | refine Z1A ?_
    | refine Z1F rfl ?_
    | refine Z2O ?_
    | refine Z3H ?_
    | refine Z4u ?_
    | refine Z6l ?_
    | refine Z1J (b:=true) rfl (fun _=>?_) (fun h=>by cases h)
    | refine Z1J (b:=false) rfl (fun h=>by cases h) (fun _=>?_))
   exact⟨.inl rfl,hb1 rfl⟩
 | false =>
   obtain rfl:=hb2 rfl
   repeat' (first
    | refine Z41 ?_
    | refine Z1X ?_
    | refine Z1A ?_
    | refine Z1F rfl ?_
    | refine Z2O ?_
    | refine Z3H ?_
    | refine Z4u ?_
    | refine Z6l ?_
    | refine Z1J (b:=true) rfl (fun _=>?_) (fun h=>by cases h)
    | refine Z1J (b:=false) rfl (fun h=>by cases h) (fun _=>?_))
   refine Z9e (X:=Nat×List (MemT N)) (fun x=>x.1<18446744073709551616∧x.2.map (·.val)++mem x.1=mem N) (fun x=>x.1) (fun x=>x.2)
    (fun x => [(0,.val (.func (.yield Y.l) #[] #[])),(3,.val (.int .i64 0)),(4,.val (.int .u64 (x.1:Int))),(6,.vec [[.val (.int .u64 (N:Int))]] false),(7,.val (.int .i64 ((1:Nat):Int))),(8,.val (.int .i64 0))]) (N,[]) ⟨hN,by simp⟩ rfl ⟨rfl,rfl,rfl,rfl,rfl,rfl,trivial⟩ ?_
   rintro⟨y,pre⟩ ⟨hy,hpre⟩
   simp only at hy hpre
   refine Z41 ?_
   refine Z41 ?_
   refine Z1X ?_
   refine Z1F rfl ?_
   refine Z1F rfl ?_
   refine Z1A ?_
   by_cases hy0:y=0
   · subst hy0
     rw [Zar,List.append_nil] at hpre
     repeat' (first
      | refine Z41 ?_
      | refine Z1X ?_
      | refine Z1A ?_
      | refine Z1F rfl ?_
      | refine Z2O ?_
      | refine Z3H ?_
      | refine Z4u ?_
      | refine Z6l ?_
      | refine Z1J (b:=true) rfl (fun _=>?_) (fun h=>by cases h)
      | refine Z1J (b:=false) rfl (fun h=>by cases h) (fun _=>?_))
     exact⟨(true,pre),⟨fun _=>hpre,fun h=>by cases h⟩,by simp,rfl,rfl,rfl,rfl,rfl,trivial⟩
   · have hne : ((y : Int) != 0) = true := by simp; exact hy0
     have hcond:∀ {e:Env},e 14=some (.val (.bool ((y:Int) != 0)))→ev e (.tmp 14)=some (.val (.bool true)):=fun h=>by rw [hne] at h; exact h
     refine Z1J (b:=true) (hcond rfl) (fun _=>?_) (fun h=>by cases h)
     rw [Zem hy hy0] at hpre
     have hmem:tz y∈mem N:=by rw [← hpre]; simp
     have hlt:=Z5s hmem
     have hlen:pre.length<(mem N).length:=by rw [← hpre]; simp
     have hsum:IntKind.i64.wrap (IntKind.i64.wrap (64*0)+((tz y:Nat):Int))=((tz y:Nat):Int):=by
      rw [show IntKind.i64.wrap (64*0)=0 from rfl,Int.zero_add]
      exact IntWalk.i64_in _ ⟨by omega,by omega⟩
     refine Z3H ?_
     refine Z41 ?_
     refine Z2O ?_
     refine Zek (al := [_,_,_,_,_,_]) (d1:=25) (d2:=26) ⟨tz y,hmem⟩ ?_
     refine Z1F rfl ?_
     refine Z1F rfl ?_
     refine Z1F rfl ?_
     refine Z1F rfl ?_
     refine ZcH (ZcJ y hy hy0) rfl rfl rfl ⟨trivial,trivial⟩ ?_
     refine Z1F (p:=.val (.int .i64 ((tz y:Nat):Int))) ?_ ?_
     · show some (PV.val (Value.int .i64 (IntKind.i64.wrap (IntKind.i64.wrap (64 * 0) + ((tz y : Nat) : Int))))) = _
       rw [hsum]
     refine Z1A ⟨rfl,rfl,by rw [hYe]; rfl,by rw [hYN]; exact hlen,?_,?_⟩
     · rw [hYs]
       exact⟨mem (y &&& (y-1)),by rw [List.map_append,List.append_assoc]; exact hpre⟩
     have hand:bits .and .u64 (y:Int) (IntKind.u64.wrap ((y:Int)-1))=((y &&& (y-1):Nat):Int):=by
      rw [IntKind.wrap_u64,show ((y:Int)-1) % 18446744073709551616=((y-1:Nat):Int) by omega]
      exact bits_and_u64_nat _ _ hy (by omega)
     refine Z1X ?_
     refine Z1F rfl ?_
     refine Z1F rfl ?_
     refine Z1F rfl ?_
     refine Z1F (p:=.val (.int .u64 ((y &&& (y-1):Nat):Int))) ?_ ?_
     · show some (PV.val (Value.int .u64 (bits .and .u64 (y : Int) (IntKind.u64.wrap ((y : Int) - 1))))) = _
       rw [hand]
     refine Z1F rfl ?_
     refine Z1A ?_
     exact⟨(y &&& (y-1),pre ++ [⟨tz y,hmem⟩]),⟨Zen hy,by rw [List.map_append,List.append_assoc]; exact hpre⟩,Zeo hy0,rfl,rfl,rfl,rfl,rfl,rfl,rfl,trivial⟩
def intsN (l:List Nat):List Int:=l.map fun (x:Nat)=>(x:Int)
end Go.Proofs.YtmnbbggaoembeaaGreatDoor
namespace Go.Proofs.YtmnbbggaoembeaaGreatDoor
open Go.RowKit
abbrev Pr:=Nat×Nat
def prC (p:Pr):List PV := [.val (.int .i64 (p.1:Int)),.val (.int .i64 (p.2:Int))]
theorem Z3p (p:Pr):pureL (prC p):=⟨trivial,trivial,trivial⟩
inductive Up (l:List Pr):Nat→Nat→Prop
 | one {a b:Nat} (h:(a,b)∈l):Up l a b
 | more {a b c:Nat} (h:Up l a b) (k:(b,c)∈l):Up l a c
theorem Zgr {l:List Pr} {a b:Nat}:Up l a b↔∃ c,(c,b)∈l∧(a=c ∨ Up l a c):=by
 constructor
 · intro h
   cases h with
   | one h=>exact⟨a,h,.inl rfl⟩
   | more h k=>exact⟨_,k,.inr h⟩
 · rintro ⟨c, h, rfl | k⟩
   · exact .one h
   · exact .more k h
def Small (l:List Pr):Prop:=∀ p∈l,p.1<64∧p.2<64
theorem Up.lt {l:List Pr} (hl:Small l) {a b:Nat} (h:Up l a b):a<64∧b<64:=by
 induction h with
 | one h=>exact hl _ h
 | more _ k ih=>exact⟨ih.1,(hl _ k).2⟩
def Acy (l:List Pr):Prop:=∃ rank:Nat→Nat,∀ p∈l,rank p.1<rank p.2
theorem Acy.sub {l m:List Pr} (h:Acy m) (hs:∀ p∈l,p∈m):Acy l:=by
 obtain⟨r,hr⟩:=h
 exact⟨r,fun p hp=>hr p (hs p hp)⟩
def ofP (p:Nat→Bool):Nat→Nat
 | 0=>0
 | k+1=>if p k then ofP p k ||| 2 ^ k else ofP p k
theorem Z78 (p:Nat→Bool):∀ k i,(ofP p k).testBit i=(decide (i<k)&&p i)
 | 0,i=>by simp [ofP]
 | k + 1, i => by
   have ih:=Z78 p k i
   unfold ofP
   by_cases hk:i=k
   · subst hk
     cases hp:p i with
     | true=>rw [if_pos rfl,Nat.testBit_or,Nat.testBit_two_pow_self]; simp
     | false=>rw [if_neg (by decide),ih]; simp
   · have h2 : decide (i < k + 1) = decide (i < k) := decide_eq_decide.2 (by omega)
     rw [h2]
     split
     · rw [Nat.testBit_or,Nat.testBit_two_pow_of_ne (by omega),Bool.or_false,ih]
     · exact ih
theorem Zfc (p:Nat→Bool):∀ k,ofP p k<2 ^ k
 | 0=>by simp [ofP]
 | k + 1 => by
   have:=Zfc p k
   have h2:2 ^ (k+1)=2 ^ k+2 ^ k:=by rw [Nat.pow_succ]; omega
   unfold ofP
   split
   · exact Nat.or_lt_two_pow (by omega) (by omega)
   · omega
theorem ZcL (p:Nat→Bool):ofP p 64<18446744073709551616:=Zfc p 64
theorem eq64 {a b:Nat} (ha:a<18446744073709551616) (hb:b<18446744073709551616) (h:∀ i,i<64→a.testBit i=b.testBit i):a=b:=by
 apply Nat.eq_of_testBit_eq
 intro i
 by_cases hi:i<64
 · exact h i hi
 · have e : ∀ {x : Nat}, x < 18446744073709551616 → x.testBit i = false := fun {x} hx => Nat.testBit_lt_two_pow (Nat.lt_of_lt_of_le hx (Nat.pow_le_pow_right (n := 2) (by decide) (show 64 ≤ i by omega)))
   rw [e ha,e hb]
open Classical in
noncomputable def abv (l:List Pr) (b:Nat):Nat:=ofP (fun a=>decide (Up l a b)) 64
open Classical in
noncomputable def bel (l:List Pr) (a:Nat):Nat:=ofP (fun b=>decide (Up l a b)) 64
theorem Z5t {l:List Pr} (hl:Small l) (a b:Nat):(abv l b).testBit a=true↔Up l a b:=by
 unfold abv
 rw [Z78]
 simp only [Bool.and_eq_true,decide_eq_true_eq]
 exact⟨fun h=>h.2,fun h=>⟨(h.lt hl).1,h⟩⟩
theorem ZcM {l:List Pr} (hl:Small l) (a b:Nat):(bel l a).testBit b=true↔Up l a b:=by
 unfold bel
 rw [Z78]
 simp only [Bool.and_eq_true,decide_eq_true_eq]
 exact⟨fun h=>h.2,fun h=>⟨(h.lt hl).2,h⟩⟩
theorem Z5u (l:List Pr) (b:Nat):abv l b<18446744073709551616:=ZcL _
theorem ZcN (l:List Pr) (a:Nat):bel l a<18446744073709551616:=ZcL _
structure Topo (l:List Pr) (S:List Nat):Prop where
 nodup:S.Nodup
 lt:∀ x∈S,x<64
 pred:∀ (t:Nat) (ht:t<S.length) (a:Nat),(a,S[t])∈l→a∈S.take t
theorem Topo.nil (l:List Pr):Topo l []:=⟨List.nodup_nil,fun _ h=>(by cases h),fun t ht=>absurd ht (Nat.not_lt_zero t)⟩
theorem Topo.closed {l:List Pr} {S:List Nat} (h:Topo l S) {a b:Nat} (hp:(a,b)∈l) (hb:b∈S):a∈S:=by
 obtain⟨t,ht,rfl⟩:=List.getElem_of_mem hb
 exact List.mem_of_mem_take (h.pred t ht a hp)
theorem Topo.snoc {l:List Pr} {S:List Nat} (h:Topo l S) {k:Nat} (hk:k ∉ S) (h64:k<64) (hp:∀ a,(a,k)∈l→a∈S):Topo l (S ++ [k]):=by
 refine⟨?_,?_,?_⟩
 · rw [List.nodup_append]
   exact⟨h.nodup,by simp,fun a ha b hb e=>by rw [List.mem_singleton] at hb; subst hb; subst e; exact hk ha⟩
 · intro x hx
   rcases List.mem_append.1 hx with hx|hx
   · exact h.lt x hx
   · rw [List.mem_singleton] at hx; omega
 · intro t ht a ha
   rw [List.length_append,List.length_singleton] at ht
   by_cases htl:t<S.length
   · rw [List.getElem_append_left htl] at ha
     rw [List.take_append_of_le_length (by omega)]
     exact h.pred t htl a ha
   · have e : t = S.length := by omega
     subst e
     rw [List.getElem_append_right (Nat.le_refl _)] at ha
     simp only [Nat.sub_self,List.getElem_singleton] at ha
     rw [List.take_left']
     · exact hp a ha
     · rfl
theorem Z57:∀ (n:Nat) (S:List Nat),S.Nodup→(∀ x∈S,x<n)→S.length≤n
 | 0, S, _, h => by
   cases S with
   | nil=>exact Nat.le_refl _
   | cons a S=>exact absurd (h a (List.mem_cons_self ..)) (Nat.not_lt_zero a)
 | n + 1, S, hn, h => by
   have hlen:=List.length_erase (a:=n) (l:=S)
   have ih:=Z57 n (S.erase n) (hn.sublist List.erase_sublist) fun x hx=>by
    have h1:=h x (List.mem_of_mem_erase hx)
    have h2:x≠n:=fun e=>by rw [e] at hx; exact (List.Nodup.mem_erase_iff hn).1 hx |>.1 rfl
    omega
   split at hlen<;>omega
theorem Topo.len {l:List Pr} {S:List Nat} (h:Topo l S):S.length≤64:=Z57 64 S h.nodup h.lt
theorem Topo.all {l:List Pr} {S:List Nat} (h:Topo l S) (h64:S.length=64) {j:Nat} (hj:j<64):j∈S:=by
 apply Classical.byContradiction
 intro hno
 have:=Z57 64 (j :: S) (List.nodup_cons.2 ⟨hno,h.nodup⟩) fun x hx=>by
  rcases List.mem_cons.1 hx with rfl|hx
  · exact hj
  · exact h.lt x hx
 rw [List.length_cons] at this
 omega
theorem kahn {l:List Pr} (hl:Small l) (hacy:Acy l) {S:List Nat} (h:Topo l S) (hlt:S.length<64):∃ j,j<64∧j ∉ S∧∀ a,(a,j)∈l→a∈S:=by
 obtain⟨rank,hr⟩:=hacy
 have key:∀ m j,rank j≤m→j<64→j ∉ S→∃ j,j<64∧j ∉ S∧∀ a,(a,j)∈l→a∈S:=by
  intro m
  induction m with
  | zero =>
    intro j hm hj hno
    exact⟨j,hj,hno,fun a ha=>by have:=hr _ ha; simp only at this; omega⟩
  | succ m ih =>
    intro j hm hj hno
    by_cases hall:∀ a,(a,j)∈l→a∈S
    · exact⟨j,hj,hno,hall⟩
    · obtain ⟨a, ha⟩ := Classical.not_forall.1 hall
      obtain⟨ha,hna⟩:=Classical.not_imp.1 ha
      have h1:=hr _ ha
      simp only at h1
      exact ih a (by omega) (hl _ ha).1 hna
 have hex:∃ j,j<64∧j ∉ S:=by
  apply Classical.byContradiction
  intro hno
  have hall:∀ j,j<64→j∈S:=fun j hj=>Classical.byContradiction fun h=>hno ⟨j,hj,h⟩
  have hp:(List.range 64).Perm S:=(List.perm_ext_iff_of_nodup List.nodup_range h.nodup).2 fun x=>by
   rw [List.mem_range]
   exact⟨hall x,h.lt x⟩
  have:=hp.length_eq
  rw [List.length_range] at this
  omega
 obtain⟨j,hj,hno⟩:=hex
 exact key _ j (Nat.le_refl _) hj hno
def leftA (l:List Pr) (S:List Nat) (j:Nat):Int:=if j∈S then -1 else (l.countP fun p=>p.2 == j && !decide (p.1∈S):Nat)
def leftB (l:List Pr) (S:List Nat) (k i j:Nat):Int:=if j∈S ++ [k] then -1 else ((l.take i).countP (fun p=>p.2 == j && !decide (p.1∈S ++ [k]))+(l.drop i).countP (fun p=>p.2 == j && !decide (p.1∈S)):Nat)
theorem Z6p {l:List Pr} {S:List Nat} {j:Nat}:leftA l S j=0↔j ∉ S∧∀ a,(a,j)∈l→a∈S:=by
 unfold leftA
 split
 · rename_i h; exact⟨fun e=>absurd e (by decide),fun e=>absurd h e.1⟩
 · rename_i h
   rw [show ((0:Int))=((0:Nat):Int) from rfl,Int.ofNat_inj,List.countP_eq_zero]
   constructor
   · intro h2
     refine⟨h,fun a ha=>?_⟩
     have:=h2 _ ha
     simpa using this
   · rintro ⟨-, h2⟩ p hp
     by_cases e:p.2=j
     · have := h2 p.1 (by rw [← e]; exact hp)
       simp [this]
     · simp [e]
theorem Zbg (l:List Pr) (S:List Nat) (k j:Nat):leftB l S k 0 j=if j=k then -1 else leftA l S j:=by
 unfold leftB leftA
 rw [List.take_zero,List.drop_zero,List.countP_nil,Nat.zero_add]
 by_cases hk:j=k
 · rw [if_pos hk,if_pos (by rw [hk]; simp)]
 · rw [if_neg hk]
   by_cases hj:j∈S
   · rw [if_pos hj,if_pos (List.mem_append_left _ hj)]
   · rw [if_neg hj,if_neg (by simp [hj,hk])]
theorem ZcO (l:List Pr) (S:List Nat) (k j:Nat):leftB l S k l.length j=leftA l (S ++ [k]) j:=by
 unfold leftB leftA
 rw [List.take_length,List.drop_length,List.countP_nil,Nat.add_zero]
theorem Zbh {l:List Pr} {S:List Nat} {k i:Nat} (hi:i<l.length) (j:Nat) (hT:Topo l S) (hk:k ∉ S) (hp:∀ a,(a,k)∈l→a∈S) :
 leftB l S k (i+1) j=if l[i].1=k∧j=l[i].2 then leftB l S k i j-1 else leftB l S k i j:=by
 have htk:l.take (i+1)=l.take i ++ [l[i]]:=by rw [List.take_add_one,List.getElem?_eq_getElem hi]; rfl
 have hdr:l.drop i=l[i] :: l.drop (i+1):=List.drop_eq_getElem_cons hi
 have hmem:l[i]∈l:=List.getElem_mem hi
 unfold leftB
 rw [htk,hdr,List.countP_append,List.countP_cons,List.countP_nil,Nat.zero_add,List.countP_cons]
 generalize l[i]=p at hmem
 by_cases hpk:p.1=k
 · have hkk : (k, p.2) ∈ l := by rw [← hpk]; exact hmem
   have hp2:p.2 ∉ S ++ [k]:=by
    rw [List.mem_append,List.mem_singleton]
    rintro (h|h)
    · exact hk (hT.closed hkk h)
    · rw [h] at hkk; exact hk (hp k hkk)
   by_cases hj:j=p.2
   · have e1 : (p.2 == j && !decide (p.1 ∈ S ++ [k])) = false := by rw [hpk]; simp
     have e2:(p.2 == j && !decide (p.1∈S))=true:=by rw [hpk,hj]; simp [hk]
     have hjn:¬ j∈S ++ [k]:=hj▸hp2
     rw [e1,e2,if_pos (show p.1=k∧j=p.2 from ⟨hpk,hj⟩),if_neg hjn,if_neg hjn,if_neg Bool.false_ne_true,if_pos rfl]
     omega
   · rw [if_neg (show ¬ (p.1 = k ∧ j = p.2) from fun h => hj h.2)]
     have e:(p.2 == j)=false:=by rw [beq_eq_false_iff_ne]; exact Ne.symm hj
     simp only [e,Bool.false_and,Bool.false_eq_true,if_false,Nat.add_zero]
 · rw [if_neg (show ¬ (p.1 = k ∧ j = p.2) from fun h => hpk h.1)]
   have e:decide (p.1∈S ++ [k])=decide (p.1∈S):=decide_eq_decide.2 (by rw [List.mem_append,List.mem_singleton]; exact⟨fun h=>h.elim id fun h=>absurd h hpk,.inl⟩)
   rw [e]
   by_cases hjn:j∈S ++ [k]
   · rw [if_pos hjn,if_pos hjn]
   · rw [if_neg hjn,if_neg hjn]; omega
theorem Zep (l:List Pr) (S:List Nat) (k i j:Nat) : -1≤leftB l S k i j∧leftB l S k i j≤l.length:=by
 unfold leftB
 have h1:=List.countP_le_length (p:=fun p:Pr=>p.2 == j && !decide (p.1∈S ++ [k])) (l:=l.take i)
 have h2:=List.countP_le_length (p:=fun p:Pr=>p.2 == j && !decide (p.1∈S)) (l:=l.drop i)
 rw [List.length_take] at h1
 rw [List.length_drop] at h2
 split<;>omega
def cntP (l:List Pr) (j:Nat):Nat:=l.countP fun p=>p.2 == j
theorem ZcP {l:List Pr} {i:Nat} (hi:i<l.length) (j:Nat):cntP (l.take (i+1)) j=if j=l[i].2 then cntP (l.take i) j+1 else cntP (l.take i) j:=by
 have htk:l.take (i+1)=l.take i ++ [l[i]]:=by rw [List.take_add_one,List.getElem?_eq_getElem hi]; rfl
 unfold cntP
 rw [htk,List.countP_append,List.countP_singleton]
 by_cases h:j=l[i].2
 · rw [if_pos h]; simp [h]
 · rw [if_neg h]; simp [Ne.symm h]
theorem Zeq (l:List Pr) (j:Nat):leftA l [] j=(cntP l j:Nat):=by
 unfold leftA cntP
 simp
theorem Zfz (l:List Pr) (j:Nat):cntP l j≤l.length:=List.countP_le_length
def tab (f:Nat→List PV):List (List PV):=(List.range 64).map f
theorem ZN (f:Nat→List PV):(tab f).length=64:=by simp [tab]
theorem Z2u {f:Nat→List PV} {i:Nat} (hi:i<64):(tab f).getD i []=f i:=by
 rw [List.getD_eq_getElem?_getD,tab,List.getElem?_map,List.getElem?_range hi]; rfl
theorem ZcQ {f:Nat→List PV} {i:Nat} (r:List PV) (hi:i<64):(tab f).set i r=tab fun j=>if j=i then r else f j:=by
 apply List.ext_getElem?
 intro j
 rw [List.getElem?_set,ZN]
 unfold tab
 rw [List.getElem?_map,List.getElem?_map]
 by_cases hj:j<64
 · rw [List.getElem?_range hj]
   by_cases e:i=j
   · subst e; simp [hi]
   · rw [if_neg e]; simp [Ne.symm e]
 · rw [List.getElem?_eq_none (by simpa using hj)]
   by_cases e:i=j
   · subst e; exact absurd hi hj
   · rw [if_neg e]; rfl
theorem Z39 {f g:Nat→List PV} (h:∀ j,j<64→f j=g j):tab f=tab g:=List.map_congr_left fun j hj=>h j (List.mem_range.1 hj)
theorem Z1j {f:Nat→List PV} (h:∀ j,pureL (f j)):pureLL (tab f):=by
 refine (Z1S _ _).2 fun r hr=>?_
 obtain⟨j,_,rfl⟩:=List.mem_map.1 hr
 exact h j
theorem ZfA (r:List PV):List.replicate 64 r=tab fun _=>r:=by rw [tab,List.map_const',List.length_range]
def intR (f:Nat→Int) (j:Nat):List PV := [.val (.int .i64 (f j))]
theorem Z46 (f:Nat→Int) (j:Nat):pureL (intR f j):=⟨trivial,trivial⟩
end Go.Proofs.YtmnbbggaoembeaaGreatDoor
