/-
  Merged from the texts that this claim's theorem needs, part 4 of 8. No statement of the seat is proved here.
-/
import Derived.Calls
import Derived.IntWalk
import Derived.Lone
import Derived.StepT
import Derived.WalkSmall
import Derived.Test.YtcgaocnjebhimaaGreatDoorMq2
set_option linter.unusedSimpArgs false
set_option linter.unusedVariables false
set_option linter.unusedSectionVars false
namespace Go.Proofs.YtcgaocnjebhimaaGreatDoor
set_option maxRecDepth 100000
def ir74 : ACode := (sQ (.region [oO 1 (.box (tT 0))]) (sQ (.draw [⟨0,oO 10 (.load false 1 (tT 1)),0,0,false⟩,⟨1,oO 11 (.load false 1 (tT 1)),0,0,false⟩,⟨2,oO 12 (.load false 1 (tT 1)),0,0,false⟩,⟨3,oO 13 (.nilck (tT 12)),
 4,0,false⟩,⟨4,oO 14 (.faddr 0 (tT 13)),12,0,false⟩,⟨5,oO 15 (.load false 1 (tT 14)),28,0,false⟩,⟨6,oO 16 (.mslice [nS] 24 (tT 15) (tT 15)),60,0,false⟩,⟨7,oO 17 (.load false 1 (tT 1)),0,0,false⟩,⟨8,oO 18 (.nilck (tT 17)),
 128,0,false⟩,⟨9,oO 19 (.faddr 0 (tT 18)),384,0,false⟩,⟨10,oO 20 (.load false 1 (tT 19)),896,0,false⟩,⟨11,oO 21 (.mslice [nS] 24 (tT 20) (tT 20)),1920,0,false⟩,⟨12,oO 22 (.nilck (tT 10)),2045,0,false⟩,⟨13,
 oO 23 (.faddr 2 (tT 22)),6141,0,false⟩,⟨14,⟨none,.store 1 (tT 23) (tT 16),none⟩,14333,28666,false⟩,⟨15,oO 24 (.nilck (tT 11)),32767,1,false⟩,⟨16,oO 25 (.faddr 3 (tT 24)),65535,1,false⟩,⟨17,⟨none,.store 1 (tT 25) (tT 21),
 none⟩,131071,1,false⟩]) (sQ (.region [oO 26 (.load false 1 (tT 1)),oO 27 (.nilck (tT 26)),oO 28 (.faddr 0 (tT 27)),oO 29 (.load false 1 (tT 28)),oO 30 (.mslice [nS] 24 (tT 29) (tT 29)),oM 2 30]) (sQ (sQ (.region [oO 31 (.load false 1 (tT 1)),
 oO 32 (.nilck (tT 31)),oO 33 (.faddr 1 (tT 32)),oO 34 (.load false 1 (tT 33)),oO 35 (.len (tT 34)),oO 36 (.mov (kI 0))]) (.block 0 (.loop (sQ (.region [oO 37 (.bin .lss .num (tT 36) (tT 35))]) (sQ (.cond (tT 37) .skip (.exit 0)) (sQ (.block 1 (sQ (.region [oO 38 (.iaddr 2 (tT 34) (tT 36)),
 oO 39 (.load true 2 (tT 38)),oO 4 (.alloc [(.int .i64 0),(.int .i64 0)]),⟨none,.store 2 (tT 4) (tT 39),none⟩]) (.draw [⟨0,oM 40 2,0,0,false⟩,⟨1,oO 41 (.iaddrA 2 1 (tT 4) (kI 1)),0,0,false⟩,⟨2,oO 42 (.load false 1 (tT 41)),
 2,0,false⟩,⟨3,oM 43 2,0,0,false⟩,⟨4,oO 44 (.iaddrA 2 1 (tT 4) (kI 1)),0,0,false⟩,⟨5,oO 45 (.load false 1 (tT 44)),16,0,false⟩,⟨6,oO 46 (.iaddr 1 (tT 43) (tT 45)),56,0,false⟩,⟨7,oO 47 (.load false 1 (tT 46)),
 120,0,false⟩,⟨8,oO 48 (.iaddrA 2 1 (tT 4) (kI 0)),0,0,false⟩,⟨9,oO 49 (.load false 1 (tT 48)),256,0,false⟩,⟨10,oO 50 (.bslice [(.int .i64 0)] 1 [(0,(tT 49))]),768,0,false⟩,⟨11,oO 51 (.append [(.int .i64 0)] 8 (tT 47) (tT 50)),
 2040,4080,false⟩,⟨12,oO 52 (.iaddr 1 (tT 40) (tT 42)),4095,1,false⟩,⟨13,⟨none,.store 1 (tT 52) (tT 51),none⟩,8191,1,false⟩]))) (.region [oO 53 (.bin .add .num (tT 36) (kI 1)),oM 36 53]))))))) (sQ (.region [oO 54 (.load false 1 (tT 1)),
 oO 55 (.nilck (tT 54)),oO 56 (.faddr 4 (tT 55)),oO 57 (.load false 1 (tT 56)),oO 58 (.len (tT 57)),oO 59 (.mov (kI 0))]) (.block 2 (.loop (sQ (.region [oO 60 (.bin .lss .num (tT 59) (tT 58))]) (sQ (.cond (tT 60) .skip (.exit 2)) (sQ (.block 3 (sQ (.region [oO 61 (.iaddr 1 (tT 57) (tT 59)),
 oO 62 (.load false 1 (tT 61)),oO 6 (.alloc [(.int .i64 0)]),⟨none,.store 1 (tT 6) (tT 62),none⟩]) (sQ (sQ (.region [oM 63 2,oO 64 (.load false 1 (tT 6)),oO 65 (.iaddr 1 (tT 63) (tT 64)),oO 66 (.load false 1 (tT 65)),
 oO 67 (.len (tT 66)),oO 68 (.mov (kI 0))]) (.block 4 (.loop (sQ (.region [oO 69 (.bin .lss .num (tT 68) (tT 67))]) (sQ (.cond (tT 69) .skip (.exit 4)) (sQ (.block 5 (sQ (.region [oO 70 (.iaddr 1 (tT 66) (tT 68)),
 oO 71 (.load false 1 (tT 70)),oM 8 71]) (.draw [⟨0,oO 72 (.load false 1 (tT 1)),0,0,false⟩,⟨1,oO 73 (.nilck (tT 72)),1,0,false⟩,⟨2,oO 74 (.faddr 2 (tT 73)),3,0,false⟩,⟨3,oO 75 (.load false 1 (tT 74)),7,
 0,false⟩,⟨4,oO 76 (.load false 1 (tT 6)),0,0,false⟩,⟨5,oO 77 (.load false 1 (tT 1)),0,0,false⟩,⟨6,oO 78 (.nilck (tT 77)),32,0,false⟩,⟨7,oO 79 (.faddr 2 (tT 78)),96,0,false⟩,⟨8,oO 80 (.load false 1 (tT 79)),
 224,0,false⟩,⟨9,oO 81 (.load false 1 (tT 6)),0,0,false⟩,⟨10,oO 82 (.iaddr 1 (tT 80) (tT 81)),992,0,false⟩,⟨11,oO 83 (.load true 1 (tT 82)),2016,0,false⟩,⟨12,oO 84 (.load false 1 (tT 1)),0,0,false⟩,⟨13,
 oO 85 (.nilck (tT 84)),4096,0,false⟩,⟨14,oO 86 (.faddr 2 (tT 85)),12288,0,false⟩,⟨15,oO 87 (.load false 1 (tT 86)),28672,0,false⟩,⟨16,oM 88 8,0,0,false⟩,⟨17,oO 89 (.iaddr 1 (tT 87) (tT 88)),126976,0,false⟩,
 ⟨18,oO 90 (.load true 1 (tT 89)),258048,0,false⟩,⟨19,oO 91 (kC 34 [(tT 83),(tT 90)]),524256,0,false⟩,⟨20,oM 92 8,0,0,false⟩,⟨21,oO 93 (kC 78 [(tT 91),(tT 92)]),2097120,0,false⟩,⟨22,oO 94 (.iaddr 1 (tT 75) (tT 76)),
 4194303,1,false⟩,⟨23,⟨none,.store 1 (tT 94) (tT 93),none⟩,8388607,1,false⟩]))) (.region [oO 95 (.bin .add .num (tT 68) (kI 1)),oM 68 95]))))))) (sQ (.draw [⟨0,oO 96 (.load false 1 (tT 1)),0,0,false⟩,⟨1,
 oO 97 (.nilck (tT 96)),1,0,false⟩,⟨2,oO 98 (.faddr 2 (tT 97)),3,0,false⟩,⟨3,oO 99 (.load false 1 (tT 98)),7,0,false⟩,⟨4,oO 100 (.load false 1 (tT 6)),0,0,false⟩,⟨5,oO 101 (.iaddr 1 (tT 99) (tT 100)),31,
 1,false⟩,⟨6,oO 102 (.load true 1 (tT 101)),63,1,false⟩,⟨7,oO 103 (kC 41 [(tT 102)]),127,1,false⟩]) (.block 6 (.range (tT 103) [104] [(9,(tT 104))] (.block 7 (.draw [⟨0,oO 105 (.load false 1 (tT 1)),0,0,
 false⟩,⟨1,oO 106 (.nilck (tT 105)),1,0,false⟩,⟨2,oO 107 (.faddr 3 (tT 106)),3,0,false⟩,⟨3,oO 108 (.load false 1 (tT 107)),7,0,false⟩,⟨4,oM 109 9,0,0,false⟩,⟨5,oO 110 (.load false 1 (tT 1)),0,0,false⟩,⟨6,
 oO 111 (.nilck (tT 110)),32,0,false⟩,⟨7,oO 112 (.faddr 3 (tT 111)),96,0,false⟩,⟨8,oO 113 (.load false 1 (tT 112)),224,0,false⟩,⟨9,oM 114 9,0,0,false⟩,⟨10,oO 115 (.iaddr 1 (tT 113) (tT 114)),992,0,false⟩,
 ⟨11,oO 116 (.load true 1 (tT 115)),2016,0,false⟩,⟨12,oO 117 (.load false 1 (tT 6)),0,0,false⟩,⟨13,oO 118 (kC 78 [(tT 116),(tT 117)]),8160,0,false⟩,⟨14,oO 119 (.iaddr 1 (tT 108) (tT 109)),16383,1,false⟩,
 ⟨15,⟨none,.store 1 (tT 119) (tT 118),none⟩,32767,1,false⟩])))))))) (.region [oO 120 (.bin .add .num (tT 59) (kI 1)),oM 59 120])))))))))))
theorem ok74 : FnOk Tryz.prog 74 121 ir74 [] := Z7 mixed Tryz.func74 (by kernel_rfl) Tryz.ntmps74 (by kernel_rfl) (by kernel_rfl)
def ir75 : ACode := (sQ (.region [oO 2 (.box (tT 0)),oO 4 (.mov (.const nS)),oO 5 (.mov (kI 0))]) (sQ (.region [oO 6 (.mov (.const nS))]) (sQ (sQ (.region [oO 12 (.load true 2 (tT 2)),oO 13 (kC 59 [(tT 12)]),
 oO 14 (.una .not (tT 13))]) (.cond (tT 14) (.region [oM 15 6,oO 16 (.load true 2 (tT 2)),oO 17 (.bslice [nS,nS] 1 [(0,(tT 16))]),oO 18 (.append [nS,nS] 48 (tT 15) (tT 17)),oM 6 18]) .skip)) (sQ (sQ (.region [oM 19 1,
 oO 20 (.len (tT 19)),oO 21 (.mov (kI 0))]) (.block 0 (.loop (sQ (.region [oO 22 (.bin .lss .num (tT 21) (tT 20))]) (sQ (.cond (tT 22) .skip (.exit 0)) (sQ (.block 1 (sQ (.region [oO 23 (.iaddr 2 (tT 19) (tT 21)),
 oO 24 (.load true 2 (tT 23)),oO 8 (.alloc [nS,nS]),⟨none,.store 2 (tT 8) (tT 24),none⟩]) (sQ (.region [oO 9 (.mov (.const nS))]) (sQ (sQ (.region [oM 25 6,oO 26 (.len (tT 25)),oO 27 (.mov (kI 0))]) (.block 2 (.loop (sQ (.region [oO 28 (.bin .lss .num (tT 27) (tT 26))]) (sQ (.cond (tT 28) .skip (.exit 2)) (sQ (.block 3 (sQ (.region [oO 29 (.iaddr 2 (tT 25) (tT 27)),
 oO 30 (.load true 2 (tT 29)),oO 11 (.alloc [nS,nS]),⟨none,.store 2 (tT 11) (tT 30),none⟩]) (.region [oM 31 9,oO 32 (.load true 2 (tT 11)),oO 33 (.load true 2 (tT 8)),oO 34 (kC 107 [(tT 32),(tT 33)]),oO 35 (.append [nS,
 nS] 48 (tT 31) (tT 34)),oM 9 35]))) (.region [oO 36 (.bin .add .num (tT 27) (kI 1)),oM 27 36]))))))) (sQ (sQ (.region [oM 37 9,oO 38 (.len (tT 37)),oO 39 (.bin .gtr .num (tT 38) (kI 2000))]) (.cond (tT 39) (sQ (.region [oO 4 (.mov (.const nS)),
 oO 5 (.mov (kI 3))]) .ret) .skip)) (.region [oM 40 9,oM 6 40])))))) (.region [oO 41 (.bin .add .num (tT 21) (kI 1)),oM 21 41]))))))) (sQ (.region [oM 42 6,oM 4 42,oO 5 (.mov (kI 0))]) .ret)))))
theorem ok75 : FnOk Tryz.prog 75 43 ir75 [.tmp 4, .tmp 5] := Z7 mixed Tryz.func75 (by kernel_rfl) Tryz.ntmps75 (by kernel_rfl) (by kernel_rfl)
def ir76 : ACode := (sQ (.region [oO 2 (.mov (.const nS))]) (sQ (.region [oM 10 0,oO 11 (kC 113 [(tT 10)]),oM 3 11]) (sQ (.region [oM 12 3,oO 13 (kC 114 [(tT 12),(.func 115)])]) (sQ (.region [oM 14 3,oO 15 (kC 116 [(tT 14),
 (.func 117)]),oM 3 15]) (sQ (.region [oO 4 (.mov (.const nS))]) (sQ (sQ (.region [oM 16 3,oO 17 (.len (tT 16)),oO 18 (.mov (kI 0))]) (.block 0 (.loop (sQ (.region [oO 19 (.bin .lss .num (tT 18) (tT 17))]) (sQ (.cond (tT 19) .skip (.exit 0)) (sQ (.block 1 (sQ (.region [oM 20 18,
 oO 21 (.iaddr 2 (tT 16) (tT 18)),oO 22 (.load true 2 (tT 21)),oO 6 (.alloc [nS,nS]),oM 5 20,⟨none,.store 2 (tT 6) (tT 22),none⟩]) (sQ (.region [oO 23 (.load true 2 (tT 6)),oO 24 (kC 59 [(tT 23)]),oM 7 24]) (sQ (sQ (.region [oM 25 3,
 oO 26 (.len (tT 25)),oO 27 (.mov (kI 0))]) (.block 2 (.loop (sQ (.region [oO 28 (.bin .lss .num (tT 27) (tT 26))]) (sQ (.cond (tT 28) .skip (.exit 2)) (sQ (.block 3 (sQ (.region [oM 29 27,oO 30 (.iaddr 2 (tT 25) (tT 27)),
 oO 31 (.load true 2 (tT 30)),oO 9 (.alloc [nS,nS]),oM 8 29,⟨none,.store 2 (tT 9) (tT 31),none⟩]) (.region [oM 32 7,oM 33 32,oF 33 34 (.mov (tT 8)),oF 33 35 (.mov (tT 5)),oF 33 36 (.bin .neq .num (tT 34) (tT 35)),
 oF 33 37 (.mov (tT 36)),oT 37 38 (.load true 2 (tT 9)),oT 37 39 (kC 59 [(tT 38)]),oT 37 40 (.una .not (tT 39)),oF 33 41 (.pick (tT 37) (tT 40) kF),oF 33 42 (.mov (tT 41)),oT 42 43 (.load true 2 (tT 6)),
 oT 42 44 (.load true 2 (tT 9)),oT 42 45 (kC 118 [(tT 43),(tT 44)]),oF 33 46 (.pick (tT 42) (tT 45) kF),oO 47 (.pick (tT 33) kT (tT 46)),oM 7 47]))) (.region [oO 48 (.bin .add .num (tT 27) (kI 1)),oM 27 48]))))))) (sQ (.region [oM 49 7,
 oO 50 (.una .not (tT 49))]) (.cond (tT 50) (.region [oM 51 4,oO 52 (.load true 2 (tT 6)),oO 53 (.bslice [nS,nS] 1 [(0,(tT 52))]),oO 54 (.append [nS,nS] 48 (tT 51) (tT 53)),oM 4 54]) .skip)))))) (.region [oO 55 (.bin .add .num (tT 18) (kI 1)),
 oM 18 55]))))))) (sQ (.region [oM 56 4,oM 2 56]) .ret)))))))
theorem ok76 : FnOk Tryz.prog 76 57 ir76 [.tmp 2] := Z7 mixed Tryz.func76 (by kernel_rfl) Tryz.ntmps76 (by kernel_rfl) (by kernel_rfl)
def ir77 : ACode := (sQ (.region [oO 2 (.box (tT 0)),oO 4 (.mov (.const (.int .u64 0)))]) (sQ (sQ (.region [oM 5 1,oO 6 (.faddr 0 (tT 2)),oO 7 (.load false 1 (tT 6)),oO 8 (.len (tT 7)),oO 9 (.bin .lss .num (tT 5) (tT 8))]) (.cond (tT 9) (sQ (.region [oO 10 (.faddr 0 (tT 2)),
 oO 11 (.load false 1 (tT 10)),oM 12 1,oO 13 (.iaddr 1 (tT 11) (tT 12)),oO 14 (.load false 1 (tT 13)),oM 4 14]) .ret) .skip)) (sQ (.region [oO 4 (.mov (.const (.int .u64 0)))]) .ret)))
theorem ok77 : FnOk Tryz.prog 77 15 ir77 [.tmp 4] := Z7 mixed Tryz.func77 (by kernel_rfl) Tryz.ntmps77 (by kernel_rfl) (by kernel_rfl)
def ir78 : ACode := (sQ (.region [oO 2 (.box (tT 0)),oO 4 (.alloc [nS])]) (sQ (sQ (.region [oM 6 1,oO 7 (.bin .lss .num (tT 6) (kI 0)),oM 8 7,oF 8 9 (.mov (tT 1)),oF 8 10 (.bin .gtr .num (tT 9) (kI 4095)),
 oO 11 (.pick (tT 8) kT (tT 10)),oM 12 11,oF 12 13 (.load true 1 (tT 2)),oF 12 14 (.mov (tT 1)),oF 12 15 (kC 35 [(tT 13),(tT 14)]),oO 16 (.pick (tT 12) kT (tT 15))]) (.cond (tT 16) (sQ (.region [oO 17 (.load true 1 (tT 2)),
 ⟨none,.store 1 (tT 4) (tT 17),none⟩]) .ret) .skip)) (sQ (.region [oO 18 (.faddr 0 (tT 2)),oO 19 (.load false 1 (tT 18)),oO 20 (.len (tT 19)),oM 21 1,oO 22 (.bin .quo .num (tT 21) (kI 64)),oO 23 (.bin .add .num (tT 22) (kI 1)),
 oO 24 (.mx (tT 20) (tT 23)),oO 25 (.mslice [(.int .u64 0)] 8 (tT 24) (tT 24)),oM 5 25]) (sQ (.region [oM 26 5,oO 27 (.faddr 0 (tT 2)),oO 28 (.load false 1 (tT 27)),oO 29 (.copy 1 (tT 26) (tT 28))]) (sQ (.draw [⟨0,
 oM 30 5,0,1,false⟩,⟨1,oM 31 1,0,1,false⟩,⟨2,oO 32 (.bin .quo .num (tT 31) (kI 64)),2,1,false⟩,⟨3,oO 33 (.iaddr 1 (tT 30) (tT 32)),7,1,false⟩,⟨4,oO 34 (.load false 1 (tT 33)),15,1,false⟩,⟨5,oM 35 1,0,0,
 false⟩,⟨6,oO 36 (.bin .rem .num (tT 35) (kI 64)),32,0,false⟩,⟨7,oO 37 (.bin .shl .num (.const (.int .u64 1)) (tT 36)),96,0,false⟩,⟨8,oO 38 (.bin .or .num (tT 34) (tT 37)),255,1,false⟩,⟨9,oO 39 (.iaddr 1 (tT 30) (tT 32)),
 511,1,false⟩,⟨10,⟨none,.store 1 (tT 39) (tT 38),none⟩,1023,1,false⟩]) (sQ (.region [oM 40 5,oO 41 (.build [nS] [(0,1,(tT 40))]),⟨none,.store 1 (tT 4) (tT 41),none⟩]) .ret))))))
theorem ok78 : FnOk Tryz.prog 78 42 ir78 [.cell 4 true 1] := Z7 mixed Tryz.func78 (by kernel_rfl) Tryz.ntmps78 (by kernel_rfl) (by kernel_rfl)
def ir79 : ACode := (sQ (.region [oO 2 (.box (tT 0)),oO 3 (.box (tT 1)),oO 4 (.alloc [nS,nS]),oO 5 (.mov kF)]) (sQ (.region [oO 7 (.load true 2 (tT 2)),oO 8 (.load true 2 (tT 3)),oO 9 (kC 106 [(tT 7),(tT 8)]),
 oO 6 (.alloc [nS,nS]),⟨none,.store 2 (tT 6) (tT 9),none⟩]) (sQ (sQ (.region [oO 10 (.load true 2 (tT 6)),oO 11 (kC 59 [(tT 10)])]) (.cond (tT 11) (sQ (.region [oO 12 (.build [nS,nS] []),⟨none,.store 2 (tT 4) (tT 12),
 none⟩,oO 5 (.mov kF)]) .ret) .skip)) (sQ (.region [oO 13 (.load true 2 (tT 6)),⟨none,.store 2 (tT 4) (tT 13),none⟩,oO 5 (.mov kT)]) .ret))))
theorem ok79 : FnOk Tryz.prog 79 14 ir79 [.cell 4 true 2, .tmp 5] := Z7 mixed Tryz.func79 (by kernel_rfl) Tryz.ntmps79 (by kernel_rfl) (by kernel_rfl)
def ir80 : ACode := (sQ (.region [oO 2 (.box (tT 0)),oO 4 (.alloc [nS])]) (sQ (sQ (.region [oO 6 (.load true 1 (tT 2)),oM 7 1,oO 8 (kC 35 [(tT 6),(tT 7)]),oO 9 (.una .not (tT 8))]) (.cond (tT 9) (sQ (.region [oO 10 (.load true 1 (tT 2)),
 ⟨none,.store 1 (tT 4) (tT 10),none⟩]) .ret) .skip)) (sQ (.region [oO 11 (.bslice [(.int .u64 0)] 0 []),oO 12 (.faddr 0 (tT 2)),oO 13 (.load false 1 (tT 12)),oO 14 (.append [(.int .u64 0)] 8 (tT 11) (tT 13)),
 oM 5 14]) (sQ (.draw [⟨0,oM 15 5,0,1,false⟩,⟨1,oM 16 1,0,1,false⟩,⟨2,oO 17 (.bin .quo .num (tT 16) (kI 64)),2,1,false⟩,⟨3,oO 18 (.iaddr 1 (tT 15) (tT 17)),7,1,false⟩,⟨4,oO 19 (.load false 1 (tT 18)),15,
 1,false⟩,⟨5,oM 20 1,0,0,false⟩,⟨6,oO 21 (.bin .rem .num (tT 20) (kI 64)),32,0,false⟩,⟨7,oO 22 (.bin .shl .num (.const (.int .u64 1)) (tT 21)),96,0,false⟩,⟨8,oO 23 (.bin .andNot .num (tT 19) (tT 22)),255,
 1,false⟩,⟨9,oO 24 (.iaddr 1 (tT 15) (tT 17)),511,1,false⟩,⟨10,⟨none,.store 1 (tT 24) (tT 23),none⟩,1023,1,false⟩]) (sQ (.region [oM 25 5,oO 26 (kC 29 [(tT 25)]),⟨none,.store 1 (tT 4) (tT 26),none⟩]) .ret)))))
theorem ok80 : FnOk Tryz.prog 80 27 ir80 [.cell 4 true 1] := Z7 mixed Tryz.func80 (by kernel_rfl) Tryz.ntmps80 (by kernel_rfl) (by kernel_rfl)
def ir81 : ACode := (sQ (.region [oO 4 (.alloc [nS])]) (sQ (sQ (.region [oM 5 0,oO 6 (.bin .eql .ptr (tT 5) (.const (.pointer none))),oM 7 6,oF 7 8 (.mov (tT 1)),oF 7 9 (kC 94 [(tT 8)]),oF 7 10 (.una .not (tT 9)),
 oO 11 (.pick (tT 7) kT (tT 10))]) (.cond (tT 11) (sQ (.region [oO 12 (.build [nS] []),⟨none,.store 1 (tT 4) (tT 12),none⟩]) .ret) .skip)) (sQ (.region [oM 13 0,oO 14 (.nilck (tT 13)),oO 15 (.faddr 0 (tT 14)),
 oO 16 (.load false 1 (tT 15)),oM 17 1,oO 18 (kC 119 [(tT 16),(tT 17)]),oM 19 1,oO 20 (kC 78 [(tT 18),(tT 19)]),⟨none,.store 1 (tT 4) (tT 20),none⟩]) .ret)))
theorem ok81 : FnOk Tryz.prog 81 21 ir81 [.cell 4 true 1] := Z7 mixed Tryz.func81 (by kernel_rfl) Tryz.ntmps81 (by kernel_rfl) (by kernel_rfl)
def ir82 : ACode := (sQ (.region [oO 5 (.faddr 0 (tT 1)),oO 6 (.load false 1 (tT 5)),oO 7 (.len (tT 6)),oO 8 (.mov (kI 0))]) (.block 0 (.loop (sQ (.region [oO 9 (.bin .lss .num (tT 8) (tT 7))]) (sQ (.cond (tT 9) .skip (.exit 0)) (sQ (.block 1 (sQ (.region [oM 10 8,
 oO 11 (.iaddr 1 (tT 6) (tT 8)),oO 12 (.load false 1 (tT 11)),oM 3 10,oM 4 12]) (.block 2 (.loop (sQ (sQ (.region [oM 13 4,oO 14 (.bin .neq .num (tT 13) (.const (.int .u64 0)))]) (.cond (tT 14) .skip (.exit 2))) (sQ (.block 3 (sQ (.region [oM 19 0,
 oM 20 3,oO 21 (.bin .mul .num (kI 64) (tT 20)),oM 22 4,oO 23 (kC 83 [(tT 22)]),oO 24 (.bin .add .num (tT 21) (tT 23)),oO 25 (.call (tT 19) [(tT 24)]),oO 26 (.una .not (tT 25))]) (.cond (tT 26) .ret .skip))) (.region [oM 15 4,
 oM 16 4,oO 17 (.bin .sub .num (tT 16) (.const (.int .u64 1))),oO 18 (.bin .and .num (tT 15) (tT 17)),oM 4 18]))))))) (.region [oO 27 (.bin .add .num (tT 8) (kI 1)),oM 8 27])))))))
theorem ok82 : FnOk Tryz.prog 82 28 ir82 [] := Z7 mixed Tryz.func82 (by kernel_rfl) Tryz.ntmps82 (by kernel_rfl) (by kernel_rfl)
def ir83 : ACode := (sQ (.region [oO 2 (.mov (kI 0))]) (sQ (sQ (.region [oM 3 0,oO 4 (.bin .eql .num (tT 3) (.const (.int .u64 0)))]) (.cond (tT 4) (sQ (.region [oO 2 (.mov (kI 64))]) .ret) .skip)) (sQ (.region [oM 5 0,
 oM 6 0,oO 7 (.una .neg (tT 6)),oO 8 (.bin .and .num (tT 5) (tT 7)),oO 9 (.bin .mul .num (tT 8) (.const (.int .u64 285870213051353865))),oO 10 (.bin .shr .num (tT 9) (.const (.int .u64 58))),oO 11 (.iaddrA 64 1 (.global 0) (tT 10)),
 oO 12 (.load false 1 (tT 11)),oO 13 (.conv .i64 (tT 12)),oM 2 13]) .ret)))
theorem ok83 : FnOk Tryz.prog 83 14 ir83 [.tmp 2] := Z7 mixed Tryz.func83 (by kernel_rfl) Tryz.ntmps83 (by kernel_rfl) (by kernel_rfl)
def ir88 : ACode := (sQ (.region [oO 4 (.mov (kI 0))]) (sQ (sQ (.region [oM 6 0,oO 7 (.len (tT 6)),oO 8 (.mov (kI 0))]) (.block 0 (.loop (sQ (.region [oO 9 (.bin .lss .num (tT 8) (tT 7))]) (sQ (.cond (tT 9) .skip (.exit 0)) (sQ (.block 1 (sQ (.region [oM 10 8,
 oM 5 10]) (sQ (.region [oM 11 1,oM 12 0,oM 13 5,oO 14 (.iaddr 2 (tT 12) (tT 13)),oO 15 (.load true 2 (tT 14)),oO 16 (.call (tT 11) [(tT 15)])]) (.cond (tT 16) (sQ (.region [oM 17 5,oM 4 17]) .ret) .skip)))) (.region [oO 18 (.bin .add .num (tT 8) (kI 1)),
 oM 8 18]))))))) (sQ (.region [oO 4 (.mov (.const (.int .i64 (-1))))]) .ret)))
theorem ok88 : FnOk Tryz.prog 88 19 ir88 [.tmp 4] := Z7 mixed Tryz.func88 (by kernel_rfl) Tryz.ntmps88 (by kernel_rfl) (by kernel_rfl)
def ir89 : ACode := (sQ (.region [oO 2 (.mov kF)]) (sQ (.region [oM 3 0,oO 4 (.bin .geq .num (tT 3) (kI 1)),oM 5 4,oT 5 6 (.mov (tT 0)),oT 5 7 (.bin .leq .num (tT 6) (kI 63)),oO 8 (.pick (tT 5) (tT 7) kF),
 oM 2 8]) .ret))
theorem ok89 : FnOk Tryz.prog 89 9 ir89 [.tmp 2] := Z7 mixed Tryz.func89 (by kernel_rfl) Tryz.ntmps89 (by kernel_rfl) (by kernel_rfl)
def ir90 : ACode := (sQ (.region [oO 6 (.mov kF)]) (sQ (sQ (.region [oM 9 0,oO 10 (.len (tT 9)),oO 11 (.mov (kI 0))]) (.block 0 (.loop (sQ (.region [oO 12 (.bin .lss .num (tT 11) (tT 10))]) (sQ (.cond (tT 12) .skip (.exit 0)) (sQ (.block 1 (sQ (.region [oO 13 (.iaddr 2 (tT 9) (tT 11)),
 oO 14 (.load true 2 (tT 13)),oO 8 (.alloc [(.int .i64 0),(.int .i64 0)]),⟨none,.store 2 (tT 8) (tT 14),none⟩]) (sQ (.region [oO 15 (.iaddrA 2 1 (tT 8) (kI 0)),oO 16 (.load false 1 (tT 15)),oM 17 1,oO 18 (.bin .eql .num (tT 16) (tT 17)),
 oM 19 18,oT 19 20 (.iaddrA 2 1 (tT 8) (kI 1)),oT 19 21 (.load false 1 (tT 20)),oT 19 22 (.mov (tT 2)),oT 19 23 (.bin .eql .num (tT 21) (tT 22)),oO 24 (.pick (tT 19) (tT 23) kF)]) (.cond (tT 24) (sQ (.region [oO 6 (.mov kT)]) .ret) .skip)))) (.region [oO 25 (.bin .add .num (tT 11) (kI 1)),
 oM 11 25]))))))) (sQ (.region [oO 6 (.mov kF)]) .ret)))
theorem ok90 : FnOk Tryz.prog 90 26 ir90 [.tmp 6] := Z7 mixed Tryz.func90 (by kernel_rfl) Tryz.ntmps90 (by kernel_rfl) (by kernel_rfl)
def ir91 : ACode := (sQ (.region [oO 6 (.mov kF)]) (sQ (.region [oM 7 2,oO 8 (kC 89 [(tT 7)]),oM 9 8,oT 9 10 (.mov (tT 0)),oT 9 11 (.mov (tT 1)),oT 9 12 (kC 92 [(tT 10),(tT 11)]),oT 9 13 (.mov (tT 2)),
 oT 9 14 (.bin .shr .num (tT 12) (tT 13)),oT 9 15 (.bin .rem .num (tT 14) (.const (.int .u64 2))),oT 9 16 (.bin .eql .num (tT 15) (.const (.int .u64 1))),oO 17 (.pick (tT 9) (tT 16) kF),oM 6 17]) .ret))
theorem ok91 : FnOk Tryz.prog 91 18 ir91 [.tmp 6] := Z7 mixed Tryz.func91 (by kernel_rfl) Tryz.ntmps91 (by kernel_rfl) (by kernel_rfl)
def ir92 : ACode := (sQ (.region [oO 4 (.mov (.const (.int .u64 0)))]) (sQ (sQ (.region [oM 9 1,oO 10 (kC 89 [(tT 9)]),oO 11 (.una .not (tT 10))]) (.cond (tT 11) (sQ (.region [oO 4 (.mov (.const (.int .u64 0)))]) .ret) .skip)) (sQ (.region [oM 12 1,
 oO 13 (.bin .shl .num (.const (.int .u64 1)) (tT 12)),oM 5 13]) (.block 0 (.loop (.block 1 (sQ (.region [oM 14 5,oM 6 14]) (sQ (sQ (.region [oM 15 0,oO 16 (.len (tT 15)),oO 17 (.mov (kI 0))]) (.block 2 (.loop (sQ (.region [oO 18 (.bin .lss .num (tT 17) (tT 16))]) (sQ (.cond (tT 18) .skip (.exit 2)) (sQ (.block 3 (sQ (.region [oO 19 (.iaddr 2 (tT 15) (tT 17)),
 oO 20 (.load true 2 (tT 19)),oO 8 (.alloc [(.int .i64 0),(.int .i64 0)]),⟨none,.store 2 (tT 8) (tT 20),none⟩]) (sQ (.region [oM 21 5,oO 22 (.iaddrA 2 1 (tT 8) (kI 0)),oO 23 (.load false 1 (tT 22)),oO 24 (.bin .shr .num (tT 21) (tT 23)),
 oO 25 (.bin .rem .num (tT 24) (.const (.int .u64 2))),oO 26 (.bin .eql .num (tT 25) (.const (.int .u64 1)))]) (.cond (tT 26) (.region [oM 27 6,oO 28 (.iaddrA 2 1 (tT 8) (kI 1)),oO 29 (.load false 1 (tT 28)),
 oO 30 (.bin .shl .num (.const (.int .u64 1)) (tT 29)),oO 31 (.bin .or .num (tT 27) (tT 30)),oM 6 31]) .skip)))) (.region [oO 32 (.bin .add .num (tT 17) (kI 1)),oM 17 32]))))))) (sQ (sQ (.region [oM 33 6,
 oM 34 5,oO 35 (.bin .eql .num (tT 33) (tT 34))]) (.cond (tT 35) (sQ (.region [oM 36 5,oM 4 36]) .ret) .skip)) (.region [oM 37 6,oM 5 37]))))))))))
theorem ok92 : FnOk Tryz.prog 92 38 ir92 [.tmp 4] := Z7 mixed Tryz.func92 (by kernel_rfl) Tryz.ntmps92 (by kernel_rfl) (by kernel_rfl)
def ir93 : ACode := (sQ (.region [oO 2 (.mov (.const nS))]) (sQ (.region [oO 3 (.mov (.const nS))]) (sQ (sQ (.region [oO 4 (.mov (kI 0))]) (.block 0 (.loop (sQ (sQ (.region [oM 5 4,oO 6 (.bin .lss .num (tT 5) (kI 64))]) (.cond (tT 6) .skip (.exit 0))) (sQ (.block 1 (sQ (.region [oM 9 0,
 oM 10 4,oO 11 (.bin .shr .num (tT 9) (tT 10)),oO 12 (.bin .rem .num (tT 11) (.const (.int .u64 2))),oO 13 (.bin .eql .num (tT 12) (.const (.int .u64 1)))]) (.cond (tT 13) (.region [oM 14 3,oM 15 4,oO 16 (.bslice [(.int .i64 0)] 1 [(0,
 (tT 15))]),oO 17 (.append [(.int .i64 0)] 8 (tT 14) (tT 16)),oM 3 17]) .skip))) (.region [oM 7 4,oO 8 (.bin .add .num (tT 7) (kI 1)),oM 4 8])))))) (sQ (.region [oM 18 3,oM 2 18]) .ret))))
theorem ok93 : FnOk Tryz.prog 93 19 ir93 [.tmp 2] := Z7 mixed Tryz.func93 (by kernel_rfl) Tryz.ntmps93 (by kernel_rfl) (by kernel_rfl)
def ir94 : ACode := (sQ (.region [oO 2 (.mov kF)]) (sQ (.region [oM 3 0,oO 4 (.bin .geq .num (tT 3) (kI 1)),oM 5 4,oT 5 6 (.mov (tT 0)),oT 5 7 (.bin .leq .num (tT 6) (kI 63)),oO 8 (.pick (tT 5) (tT 7) kF),
 oM 2 8]) .ret))
theorem ok94 : FnOk Tryz.prog 94 9 ir94 [.tmp 2] := Z7 mixed Tryz.func94 (by kernel_rfl) Tryz.ntmps94 (by kernel_rfl) (by kernel_rfl)
def ir95 : ACode := (sQ (.region [oO 6 (.mov (.const (.pointer none))),oO 7 (.mov (kI 0))]) (sQ (sQ (.region [oM 8 0,oO 9 (.bin .eql .ptr (tT 8) (.const (.pointer none)))]) (.cond (tT 9) (sQ (.region [oO 6 (.mov (.const (.pointer none))),
 oO 7 (.mov (kI 1))]) .ret) .skip)) (sQ (sQ (.region [oM 10 0,oM 11 1,oO 12 (kC 123 [(tT 10),(tT 11)]),oO 13 (.una .not (tT 12)),oM 14 13,oF 14 15 (.mov (tT 0)),oF 14 16 (.mov (tT 2)),oF 14 17 (kC 123 [(tT 15),
 (tT 16)]),oF 14 18 (.una .not (tT 17)),oO 19 (.pick (tT 14) kT (tT 18))]) (.cond (tT 19) (sQ (.region [oO 6 (.mov (.const (.pointer none))),oO 7 (.mov (kI 2))]) .ret) .skip)) (sQ (sQ (.region [oM 20 0,
 oO 21 (.nilck (tT 20)),oO 22 (.faddr 1 (tT 21)),oO 23 (.load false 1 (tT 22)),oM 24 1,oM 25 2,oO 26 (.build [(.int .i64 0),(.int .i64 0)] [(0,1,(tT 24)),(1,1,(tT 25))]),oO 27 (kC 124 [(tT 23),(tT 26)])]) (.cond (tT 27) (sQ (.region [oO 6 (.mov (.const (.pointer none))),
 oO 7 (.mov (kI 5))]) .ret) .skip)) (sQ (.draw [⟨0,oM 28 0,0,0,false⟩,⟨1,oO 29 (.nilck (tT 28)),1,0,false⟩,⟨2,oO 30 (.faddr 0 (tT 29)),3,0,false⟩,⟨3,oO 31 (.load false 1 (tT 30)),7,0,false⟩,⟨4,oM 32 0,0,
 0,false⟩,⟨5,oO 33 (kC 125 [(tT 32)]),16,0,false⟩,⟨6,oM 34 1,0,0,false⟩,⟨7,oM 35 2,0,0,false⟩,⟨8,oO 36 (.build [(.int .i64 0),(.int .i64 0)] [(0,1,(tT 34)),(1,1,(tT 35))]),192,0,false⟩,⟨9,oO 37 (.bslice [(.int .i64 0),
 (.int .i64 0)] 1 [(0,(tT 36))]),448,0,false⟩,⟨10,oO 38 (.append [(.int .i64 0),(.int .i64 0)] 16 (tT 33) (tT 37)),1008,2016,false⟩,⟨11,oO 39 (kC 28 [(tT 31),(tT 38)]),2047,1,false⟩,⟨12,oO 40 (.extract (tT 39) 0),
 4095,1,false⟩,⟨13,oO 41 (.extract (tT 39) 1),4095,1,false⟩,⟨14,oM 6 40,16383,1,false⟩,⟨15,oM 7 41,32767,1,false⟩]) .ret)))))
theorem ok95 : FnOk Tryz.prog 95 42 ir95 [.tmp 6, .tmp 7] := Z7 mixed Tryz.func95 (by kernel_rfl) Tryz.ntmps95 (by kernel_rfl) (by kernel_rfl)
def ir96 : ACode := (sQ (.region [oO 3 (.box (tT 1)),oO 4 (.mov kF)]) (sQ (.region [oM 5 0,oO 6 (.mkfn 127 [(tT 3)]),oO 7 (kC 126 [(tT 5),(tT 6)]),oO 8 (.una .not (tT 7)),oM 4 8]) .ret))
theorem ok96 : FnOk Tryz.prog 96 9 ir96 [.tmp 4] := Z7 mixed Tryz.func96 (by kernel_rfl) Tryz.ntmps96 (by kernel_rfl) (by kernel_rfl)
def ir97 : ACode := (sQ (.region [oO 2 (.mov (.const nS))]) (sQ (sQ (.region [oM 3 0,oO 4 (.bin .eql .ptr (tT 3) (.const (.pointer none)))]) (.cond (tT 4) (sQ (.region [oO 2 (.mov (.const nS))]) .ret) .skip)) (sQ (.region [oM 5 0,
 oO 6 (.nilck (tT 5)),oO 7 (.faddr 0 (tT 6)),oO 8 (.load false 1 (tT 7)),oO 9 (kC 125 [(tT 8)]),oM 2 9]) .ret)))
theorem ok97 : FnOk Tryz.prog 97 10 ir97 [.tmp 2] := Z7 mixed Tryz.func97 (by kernel_rfl) Tryz.ntmps97 (by kernel_rfl) (by kernel_rfl)
def ir98 : ACode := (sQ (.region [oO 2 (.box (tT 0)),oO 3 (.mov kF)]) (sQ (.region [oO 4 (.load true 1 (tT 1)),oO 5 (.iaddrA 2 1 (tT 2) (kI 0)),oO 6 (.load false 1 (tT 5)),oO 7 (kC 35 [(tT 4),(tT 6)]),
 oM 8 7,oT 8 9 (.load true 1 (tT 1)),oT 8 10 (.iaddrA 2 1 (tT 2) (kI 1)),oT 8 11 (.load false 1 (tT 10)),oT 8 12 (kC 35 [(tT 9),(tT 11)]),oO 13 (.pick (tT 8) (tT 12) kF),oM 3 13]) .ret))
theorem ok98 : FnOk Tryz.prog 98 14 ir98 [.tmp 3] := Z7 mixed Tryz.func98 (by kernel_rfl) Tryz.ntmps98 (by kernel_rfl) (by kernel_rfl)
def ir99 : ACode := (sQ (.region [oO 2 (.box (tT 0)),oO 3 (.mov kF)]) (sQ (.region [oO 4 (.load true 1 (tT 1)),oO 5 (.faddr 3 (tT 2)),oO 6 (.load false 1 (tT 5)),oO 7 (kC 35 [(tT 4),(tT 6)]),oM 3 7]) .ret))
theorem ok99 : FnOk Tryz.prog 99 8 ir99 [.tmp 3] := Z7 mixed Tryz.func99 (by kernel_rfl) Tryz.ntmps99 (by kernel_rfl) (by kernel_rfl)
def ir100 : ACode := (sQ (.region [oO 3 (.box (tT 1)),oO 4 (.mov kF)]) (sQ (.region [oM 5 0,oO 6 (.mkfn 128 [(tT 3)]),oO 7 (kC 44 [(tT 5),(tT 6)]),oO 8 (.una .not (tT 7)),oM 4 8]) .ret))
theorem ok100 : FnOk Tryz.prog 100 9 ir100 [.tmp 4] := Z7 mixed Tryz.func100 (by kernel_rfl) Tryz.ntmps100 (by kernel_rfl) (by kernel_rfl)
def ir101 : ACode := (sQ (.region [oO 2 (.box (tT 0)),oO 3 (.mov kF)]) (sQ (.draw [⟨0,oO 4 (.faddr 0 (tT 2)),0,0,false⟩,⟨1,oO 5 (.load true 1 (tT 4)),1,0,false⟩,⟨2,oO 6 (.faddr 1 (tT 2)),0,0,false⟩,⟨3,
 oO 7 (.load true 1 (tT 6)),4,0,false⟩,⟨4,oO 8 (kC 34 [(tT 5),(tT 7)]),15,0,false⟩,⟨5,oO 9 (.load true 1 (tT 1)),0,0,false⟩,⟨6,oO 10 (kC 36 [(tT 8),(tT 9)]),63,1,false⟩,⟨7,oM 3 10,127,1,false⟩]) .ret))
theorem ok101 : FnOk Tryz.prog 101 11 ir101 [.tmp 3] := Z7 mixed Tryz.func101 (by kernel_rfl) Tryz.ntmps101 (by kernel_rfl) (by kernel_rfl)
def ir102 : ACode := (sQ (.region [oO 4 (.mov kF)]) (sQ (.region [oM 5 0,oM 6 1,oO 7 (kC 129 [(tT 5),(tT 6)]),oO 8 (.bin .geq .num (tT 7) (kI 0)),oM 4 8]) .ret))
theorem ok102 : FnOk Tryz.prog 102 9 ir102 [.tmp 4] := Z7 mixed Tryz.func102 (by kernel_rfl) Tryz.ntmps102 (by kernel_rfl) (by kernel_rfl)
def ir103 : ACode := (sQ (.region [oO 2 (.box (tT 0)),oO 3 (.mov kF)]) (sQ (.region [oO 4 (.load false 1 (tT 1)),oO 5 (.load true 5 (tT 2)),oO 6 (.call (tT 4) [(tT 5)]),oO 7 (.una .not (tT 6)),oM 3 7]) .ret))
theorem ok103 : FnOk Tryz.prog 103 8 ir103 [.tmp 3] := Z7 mixed Tryz.func103 (by kernel_rfl) Tryz.ntmps103 (by kernel_rfl) (by kernel_rfl)
def ir104 : ACode := (sQ (.region [oO 4 (.alloc [nS])]) (sQ (sQ (.region [oM 5 0,oO 6 (.bin .eql .ptr (tT 5) (.const (.pointer none))),oM 7 6,oF 7 8 (.mov (tT 1)),oF 7 9 (kC 94 [(tT 8)]),oF 7 10 (.una .not (tT 9)),
 oO 11 (.pick (tT 7) kT (tT 10))]) (.cond (tT 11) (sQ (.region [oO 12 (.build [nS] []),⟨none,.store 1 (tT 4) (tT 12),none⟩]) .ret) .skip)) (sQ (.region [oM 13 0,oO 14 (.nilck (tT 13)),oO 15 (.faddr 0 (tT 14)),
 oO 16 (.load false 1 (tT 15)),oM 17 1,oO 18 (kC 130 [(tT 16),(tT 17)]),oM 19 1,oO 20 (kC 78 [(tT 18),(tT 19)]),⟨none,.store 1 (tT 4) (tT 20),none⟩]) .ret)))
theorem ok104 : FnOk Tryz.prog 104 21 ir104 [.cell 4 true 1] := Z7 mixed Tryz.func104 (by kernel_rfl) Tryz.ntmps104 (by kernel_rfl) (by kernel_rfl)
def ir105 : ACode := (sQ (.region [oO 2 (.box (tT 0)),oO 3 (.box (tT 1)),oO 4 (.alloc [nS])]) (sQ (.region [oO 7 (.faddr 0 (tT 2)),oO 8 (.load false 1 (tT 7)),oO 9 (.len (tT 8)),oO 10 (.faddr 0 (tT 3)),
 oO 11 (.load false 1 (tT 10)),oO 12 (.len (tT 11)),oO 13 (.mn (tT 9) (tT 12)),oO 14 (.mslice [(.int .u64 0)] 8 (tT 13) (tT 13)),oM 5 14]) (sQ (sQ (.region [oM 15 5,oO 16 (.len (tT 15)),oO 17 (.mov (kI 0))]) (.block 0 (.loop (sQ (.region [oO 18 (.bin .lss .num (tT 17) (tT 16))]) (sQ (.cond (tT 18) .skip (.exit 0)) (sQ (.block 1 (sQ (.region [oM 19 17,
 oM 6 19]) (.draw [⟨0,oM 20 5,0,0,false⟩,⟨1,oM 21 6,0,0,false⟩,⟨2,oO 22 (.faddr 0 (tT 2)),0,0,false⟩,⟨3,oO 23 (.load false 1 (tT 22)),4,0,false⟩,⟨4,oM 24 6,0,0,false⟩,⟨5,oO 25 (.iaddr 1 (tT 23) (tT 24)),
 28,0,false⟩,⟨6,oO 26 (.load false 1 (tT 25)),60,0,false⟩,⟨7,oO 27 (.faddr 0 (tT 3)),0,0,false⟩,⟨8,oO 28 (.load false 1 (tT 27)),128,0,false⟩,⟨9,oM 29 6,0,0,false⟩,⟨10,oO 30 (.iaddr 1 (tT 28) (tT 29)),896,
 0,false⟩,⟨11,oO 31 (.load false 1 (tT 30)),1920,0,false⟩,⟨12,oO 32 (.bin .and .num (tT 26) (tT 31)),4092,1,false⟩,⟨13,oO 33 (.iaddr 1 (tT 20) (tT 21)),8191,1,false⟩,⟨14,⟨none,.store 1 (tT 33) (tT 32),none⟩,
 16383,1,false⟩]))) (.region [oO 34 (.bin .add .num (tT 17) (kI 1)),oM 17 34]))))))) (sQ (.region [oM 35 5,oO 36 (kC 29 [(tT 35)]),⟨none,.store 1 (tT 4) (tT 36),none⟩]) .ret))))
theorem ok105 : FnOk Tryz.prog 105 37 ir105 [.cell 4 true 1] := Z7 mixed Tryz.func105 (by kernel_rfl) Tryz.ntmps105 (by kernel_rfl) (by kernel_rfl)
def ir106 : ACode := (sQ (.region [oO 2 (.box (tT 0)),oO 3 (.box (tT 1)),oO 4 (.alloc [nS,nS])]) (sQ (.draw [⟨0,oO 5 (.faddr 0 (tT 2)),0,0,false⟩,⟨1,oO 6 (.load true 1 (tT 5)),1,0,false⟩,⟨2,oO 7 (.faddr 0 (tT 3)),
 0,0,false⟩,⟨3,oO 8 (.load true 1 (tT 7)),4,0,false⟩,⟨4,oO 9 (kC 34 [(tT 6),(tT 8)]),15,0,false⟩,⟨5,oO 10 (.faddr 1 (tT 2)),0,0,false⟩,⟨6,oO 11 (.load true 1 (tT 10)),32,0,false⟩,⟨7,oO 12 (.faddr 1 (tT 3)),
 0,0,false⟩,⟨8,oO 13 (.load true 1 (tT 12)),128,0,false⟩,⟨9,oO 14 (kC 34 [(tT 11),(tT 13)]),511,1,false⟩,⟨10,oO 15 (.build [nS,nS] [(0,1,(tT 9)),(1,1,(tT 14))]),1023,1,false⟩,⟨11,⟨none,.store 2 (tT 4) (tT 15),
 none⟩,2047,1,false⟩]) .ret))
theorem ok106 : FnOk Tryz.prog 106 16 ir106 [.cell 4 true 2] := Z7 mixed Tryz.func106 (by kernel_rfl) Tryz.ntmps106 (by kernel_rfl) (by kernel_rfl)
def ir107 : ACode := (sQ (.region [oO 2 (.box (tT 0)),oO 3 (.box (tT 1)),oO 4 (.mov (.const nS))]) (sQ (sQ (.region [oO 9 (.load true 2 (tT 2)),oO 10 (kC 59 [(tT 9)])]) (.cond (tT 10) (sQ (.region [oO 4 (.mov (.const nS))]) .ret) .skip)) (sQ (sQ (.region [oO 12 (.load true 2 (tT 2)),
 oO 13 (.load true 2 (tT 3)),oO 14 (kC 79 [(tT 12),(tT 13)]),oM 11 14,oO 15 (.extract (tT 11) 0),oO 16 (.extract (tT 11) 1),oO 5 (.alloc [nS,nS]),⟨none,.store 2 (tT 5) (tT 15),none⟩,oM 6 16]) (sQ (.region [oM 17 6,
 oO 18 (.una .not (tT 17))]) (.cond (tT 18) (sQ (.region [oO 19 (.load true 2 (tT 2)),oO 20 (.bslice [nS,nS] 1 [(0,(tT 19))]),oM 4 20]) .ret) .skip))) (sQ (.region [oO 7 (.alloc [nS])]) (sQ (sQ (.region [oO 21 (.faddr 0 (tT 3)),
 oO 22 (.load true 1 (tT 21)),oO 23 (.faddr 1 (tT 3)),oO 24 (.load true 1 (tT 23)),oO 25 (kC 34 [(tT 22),(tT 24)]),oO 26 (kC 41 [(tT 25)])]) (.block 0 (.range (tT 26) [27] [(8,(tT 27))] (.block 1 (.block 2 (sQ (.region [oO 29 (.faddr 0 (tT 3)),
 oO 30 (.load true 1 (tT 29)),oM 31 8,oO 32 (kC 35 [(tT 30),(tT 31)]),oM 33 32,oT 33 34 (.faddr 0 (tT 2)),oT 33 35 (.load true 1 (tT 34)),oT 33 36 (.mov (tT 8)),oT 33 37 (kC 35 [(tT 35),(tT 36)]),oT 33 38 (.una .not (tT 37)),
 oO 39 (.pick (tT 33) (tT 38) kF),oM 28 39]) (.cond (tT 28) (sQ (.draw [⟨0,oO 40 (.load false 1 (tT 7)),0,0,false⟩,⟨1,oO 41 (.faddr 0 (tT 2)),0,0,false⟩,⟨2,oO 42 (.load true 1 (tT 41)),2,0,false⟩,⟨3,oO 43 (.faddr 1 (tT 2)),
 0,0,false⟩,⟨4,oO 44 (.load true 1 (tT 43)),8,0,false⟩,⟨5,oM 45 8,0,0,false⟩,⟨6,oO 46 (kC 78 [(tT 44),(tT 45)]),56,0,false⟩,⟨7,oO 47 (.build [nS,nS] [(0,1,(tT 42)),(1,1,(tT 46))]),126,0,false⟩,⟨8,oO 48 (.bslice [nS,
 nS] 1 [(0,(tT 47))]),254,0,false⟩,⟨9,oO 49 (.append [nS,nS] 48 (tT 40) (tT 48)),511,1,false⟩,⟨10,⟨none,.store 1 (tT 7) (tT 49),none⟩,1023,1,false⟩]) (.region [oO 50 (.faddr 0 (tT 2)),oO 51 (.load true 1 (tT 50)),
 oM 52 8,oO 53 (kC 78 [(tT 51),(tT 52)]),oO 54 (.faddr 0 (tT 2)),⟨none,.store 1 (tT 54) (tT 53),none⟩])) (sQ (.region [oO 56 (.faddr 1 (tT 3)),oO 57 (.load true 1 (tT 56)),oM 58 8,oO 59 (kC 35 [(tT 57),
 (tT 58)]),oM 60 59,oT 60 61 (.faddr 1 (tT 2)),oT 60 62 (.load true 1 (tT 61)),oT 60 63 (.mov (tT 8)),oT 60 64 (kC 35 [(tT 62),(tT 63)]),oT 60 65 (.una .not (tT 64)),oO 66 (.pick (tT 60) (tT 65) kF),oM 55 66]) (.cond (tT 55) (sQ (.draw [⟨0,
 oO 67 (.load false 1 (tT 7)),0,0,false⟩,⟨1,oO 68 (.faddr 0 (tT 2)),0,0,false⟩,⟨2,oO 69 (.load true 1 (tT 68)),2,0,false⟩,⟨3,oM 70 8,0,0,false⟩,⟨4,oO 71 (kC 78 [(tT 69),(tT 70)]),14,0,false⟩,⟨5,oO 72 (.faddr 1 (tT 2)),
 0,0,false⟩,⟨6,oO 73 (.load true 1 (tT 72)),32,0,false⟩,⟨7,oO 74 (.build [nS,nS] [(0,1,(tT 71)),(1,1,(tT 73))]),126,0,false⟩,⟨8,oO 75 (.bslice [nS,nS] 1 [(0,(tT 74))]),254,0,false⟩,⟨9,oO 76 (.append [nS,
 nS] 48 (tT 67) (tT 75)),511,1,false⟩,⟨10,⟨none,.store 1 (tT 7) (tT 76),none⟩,1023,1,false⟩]) (.region [oO 77 (.faddr 1 (tT 2)),oO 78 (.load true 1 (tT 77)),oM 79 8,oO 80 (kC 78 [(tT 78),(tT 79)]),oO 81 (.faddr 1 (tT 2)),
 ⟨none,.store 1 (tT 81) (tT 80),none⟩])) .skip))))))))) (sQ (.region [oO 82 (.load false 1 (tT 7)),oM 4 82]) .ret))))))
theorem ok107 : FnOk Tryz.prog 107 83 ir107 [.tmp 4] := Z7 mixed Tryz.func107 (by kernel_rfl) Tryz.ntmps107 (by kernel_rfl) (by kernel_rfl)
def ir108 : ACode := (sQ (.region [oO 1 (.box (tT 0)),oO 2 (.mov (kI 0)),oO 3 (.mov kF)]) (sQ (sQ (.region [oO 5 (.load true 1 (tT 1)),oO 6 (kC 56 [(tT 5)])]) (.cond (tT 6) (sQ (.region [oO 2 (.mov (kI 0)),
 oO 3 (.mov kF)]) .ret) .skip)) (sQ (.region [oO 7 (.faddr 0 (tT 1)),oO 8 (.load false 1 (tT 7)),oO 9 (.len (tT 8)),oO 10 (.bin .sub .num (tT 9) (kI 1)),oM 4 10]) (sQ (.region [oM 11 4,oO 12 (.bin .mul .num (kI 64) (tT 11)),
 oO 13 (.faddr 0 (tT 1)),oO 14 (.load false 1 (tT 13)),oM 15 4,oO 16 (.iaddr 1 (tT 14) (tT 15)),oO 17 (.load false 1 (tT 16)),oO 18 (kC 131 [(tT 17)]),oO 19 (.bin .add .num (tT 12) (tT 18)),oO 20 (.bin .sub .num (tT 19) (kI 1)),
 oM 2 20,oO 3 (.mov kT)]) .ret))))
theorem ok108 : FnOk Tryz.prog 108 21 ir108 [.tmp 2, .tmp 3] := Z7 mixed Tryz.func108 (by kernel_rfl) Tryz.ntmps108 (by kernel_rfl) (by kernel_rfl)
def ir109 : ACode := (sQ (.region [oO 2 (.mov kF)]) (sQ (.region [oM 3 0,oM 4 0,oO 5 (.bin .neq .num (tT 3) (tT 4)),oM 2 5]) .ret))
theorem ok109 : FnOk Tryz.prog 109 6 ir109 [.tmp 2] := Z7 mixed Tryz.func109 (by kernel_rfl) Tryz.ntmps109 (by kernel_rfl) (by kernel_rfl)
def ir112 : ACode := (sQ (.region [oO 4 (.mov (kI 0))]) (sQ (sQ (.region [oM 6 0,oO 7 (.len (tT 6)),oO 8 (.mov (kI 0))]) (.block 0 (.loop (sQ (.region [oO 9 (.bin .lss .num (tT 8) (tT 7))]) (sQ (.cond (tT 9) .skip (.exit 0)) (sQ (.block 1 (sQ (.region [oM 10 8,
 oM 5 10]) (sQ (.region [oM 11 1,oM 12 0,oM 13 5,oO 14 (.iaddr 1 (tT 12) (tT 13)),oO 15 (.load false 1 (tT 14)),oO 16 (.bin .eql .num (tT 11) (tT 15))]) (.cond (tT 16) (sQ (.region [oM 17 5,oM 4 17]) .ret) .skip)))) (.region [oO 18 (.bin .add .num (tT 8) (kI 1)),
 oM 8 18]))))))) (sQ (.region [oO 4 (.mov (.const (.int .i64 (-1))))]) .ret)))
theorem ok112 : FnOk Tryz.prog 112 19 ir112 [.tmp 4] := Z7 mixed Tryz.func112 (by kernel_rfl) Tryz.ntmps112 (by kernel_rfl) (by kernel_rfl)
def ir113 : ACode := (sQ (.region [oO 2 (.mov (.const nS))]) (sQ (sQ (.region [oM 3 0,oO 4 (.isnil false (tT 3))]) (.cond (tT 4) (sQ (.region [oO 2 (.mov (.const nS))]) .ret) .skip)) (sQ (.region [oO 5 (.bslice [nS,
 nS] 0 []),oM 6 0,oO 7 (.append [nS,nS] 48 (tT 5) (tT 6)),oM 2 7]) .ret)))
theorem ok113 : FnOk Tryz.prog 113 8 ir113 [.tmp 2] := Z7 mixed Tryz.func113 (by kernel_rfl) Tryz.ntmps113 (by kernel_rfl) (by kernel_rfl)
def ir115 : ACode := (sQ (.region [oO 2 (.box (tT 0)),oO 3 (.box (tT 1)),oO 4 (.mov (kI 0))]) (sQ (sQ (.region [oO 6 (.faddr 0 (tT 2)),oO 7 (.load true 1 (tT 6)),oO 8 (.faddr 0 (tT 3)),oO 9 (.load true 1 (tT 8)),
 oO 10 (kC 142 [(tT 7),(tT 9)]),oM 5 10]) (sQ (.region [oM 11 5,oO 12 (.bin .neq .num (tT 11) (kI 0))]) (.cond (tT 12) (sQ (.region [oM 13 5,oM 4 13]) .ret) .skip))) (sQ (.region [oO 14 (.faddr 1 (tT 2)),
 oO 15 (.load true 1 (tT 14)),oO 16 (.faddr 1 (tT 3)),oO 17 (.load true 1 (tT 16)),oO 18 (kC 142 [(tT 15),(tT 17)]),oM 4 18]) .ret)))
theorem ok115 : FnOk Tryz.prog 115 19 ir115 [.tmp 4] := Z7 mixed Tryz.func115 (by kernel_rfl) Tryz.ntmps115 (by kernel_rfl) (by kernel_rfl)
def ir116 : ACode := (sQ (.region [oO 4 (.mov (.const nS))]) (sQ (sQ (.region [oM 8 0,oO 9 (.len (tT 8)),oO 10 (.bin .lss .num (tT 9) (kI 2))]) (.cond (tT 10) (sQ (.region [oM 11 0,oM 4 11]) .ret) .skip)) (sQ (sQ (.region [oO 5 (.mov (kI 1))]) (.block 0 (.loop (sQ (sQ (.region [oM 12 5,
 oM 13 0,oO 14 (.len (tT 13)),oO 15 (.bin .lss .num (tT 12) (tT 14))]) (.cond (tT 15) .skip (.exit 0))) (sQ (.block 1 (sQ (.draw [⟨0,oM 18 1,0,0,false⟩,⟨1,oM 19 0,0,0,false⟩,⟨2,oM 20 5,0,0,false⟩,⟨3,oO 21 (.iaddr 2 (tT 19) (tT 20)),
 6,0,false⟩,⟨4,oO 22 (.load true 2 (tT 21)),14,0,false⟩,⟨5,oM 23 0,0,0,false⟩,⟨6,oM 24 5,0,0,false⟩,⟨7,oO 25 (.bin .sub .num (tT 24) (kI 1)),64,0,false⟩,⟨8,oO 26 (.iaddr 2 (tT 23) (tT 25)),224,0,false⟩,
 ⟨9,oO 27 (.load true 2 (tT 26)),480,0,false⟩,⟨10,oO 28 (.call (tT 18) [(tT 22),(tT 27)]),1023,1,false⟩]) (.cond (tT 28) (sQ (.region [oM 29 0,oM 30 5,oO 31 (.slc 2 (tT 29) (some (tT 30)) none none),oM 6 31]) (sQ (sQ (.region [oO 7 (.mov (kI 1))]) (.block 2 (.loop (sQ (sQ (.region [oM 32 7,
 oM 33 6,oO 34 (.len (tT 33)),oO 35 (.bin .lss .num (tT 32) (tT 34))]) (.cond (tT 35) .skip (.exit 2))) (sQ (.block 3 (sQ (.draw [⟨0,oM 38 1,0,0,false⟩,⟨1,oM 39 6,0,0,false⟩,⟨2,oM 40 7,0,0,false⟩,⟨3,oO 41 (.iaddr 2 (tT 39) (tT 40)),
 6,0,false⟩,⟨4,oO 42 (.load true 2 (tT 41)),14,0,false⟩,⟨5,oM 43 6,0,0,false⟩,⟨6,oM 44 7,0,0,false⟩,⟨7,oO 45 (.bin .sub .num (tT 44) (kI 1)),64,0,false⟩,⟨8,oO 46 (.iaddr 2 (tT 43) (tT 45)),224,0,false⟩,
 ⟨9,oO 47 (.load true 2 (tT 46)),480,0,false⟩,⟨10,oO 48 (.call (tT 38) [(tT 42),(tT 47)]),1023,1,false⟩,⟨11,oO 49 (.una .not (tT 48)),2047,1,false⟩]) (.cond (tT 49) (sQ (.region [oM 50 0,oM 51 5,oM 52 6,
 oM 53 7,oO 54 (.iaddr 2 (tT 52) (tT 53)),oO 55 (.load true 2 (tT 54)),oO 56 (.iaddr 2 (tT 50) (tT 51)),⟨none,.store 2 (tT 56) (tT 55),none⟩]) (.region [oM 57 5,oO 58 (.bin .add .num (tT 57) (kI 1)),oM 5 58])) .skip))) (.region [oM 36 7,
 oO 37 (.bin .add .num (tT 36) (kI 1)),oM 7 37])))))) (sQ (.region [oM 59 0,oM 60 5,oO 61 (.slc 2 (tT 59) (some (tT 60)) none none),⟨none,.clear [nS,nS] (tT 61),none⟩]) (sQ (.region [oM 62 0,oM 63 5,oO 64 (.slc 2 (tT 62) none (some (tT 63)) none),
 oM 4 64]) .ret)))) .skip))) (.region [oM 16 5,oO 17 (.bin .add .num (tT 16) (kI 1)),oM 5 17])))))) (sQ (.region [oM 65 0,oM 4 65]) .ret))))
theorem ok116 : FnOk Tryz.prog 116 66 ir116 [.tmp 4] := Z7 mixed Tryz.func116 (by kernel_rfl) Tryz.ntmps116 (by kernel_rfl) (by kernel_rfl)
def ir117 : ACode := (sQ (.region [oO 2 (.box (tT 0)),oO 3 (.box (tT 1)),oO 4 (.mov kF)]) (sQ (.region [oO 5 (.faddr 0 (tT 2)),oO 6 (.load true 1 (tT 5)),oO 7 (.faddr 0 (tT 3)),oO 8 (.load true 1 (tT 7)),
 oO 9 (kC 143 [(tT 6),(tT 8)]),oM 10 9,oT 10 11 (.faddr 1 (tT 2)),oT 10 12 (.load true 1 (tT 11)),oT 10 13 (.faddr 1 (tT 3)),oT 10 14 (.load true 1 (tT 13)),oT 10 15 (kC 143 [(tT 12),(tT 14)]),oO 16 (.pick (tT 10) (tT 15) kF),
 oM 4 16]) .ret))
theorem ok117 : FnOk Tryz.prog 117 17 ir117 [.tmp 4] := Z7 mixed Tryz.func117 (by kernel_rfl) Tryz.ntmps117 (by kernel_rfl) (by kernel_rfl)
def ir118 : ACode := (sQ (.region [oO 2 (.box (tT 0)),oO 3 (.box (tT 1)),oO 4 (.mov kF)]) (sQ (.region [oO 5 (.load true 2 (tT 2)),oO 6 (kC 59 [(tT 5)]),oM 7 6,oF 7 8 (.faddr 0 (tT 3)),oF 7 9 (.load true 1 (tT 8)),
 oF 7 10 (.faddr 0 (tT 2)),oF 7 11 (.load true 1 (tT 10)),oF 7 12 (kC 36 [(tT 9),(tT 11)]),oF 7 13 (.mov (tT 12)),oT 13 14 (.faddr 1 (tT 3)),oT 13 15 (.load true 1 (tT 14)),oT 13 16 (.faddr 1 (tT 2)),oT 13 17 (.load true 1 (tT 16)),
 oT 13 18 (kC 36 [(tT 15),(tT 17)]),oF 7 19 (.pick (tT 13) (tT 18) kF),oO 20 (.pick (tT 7) kT (tT 19)),oM 4 20]) .ret))
theorem ok118 : FnOk Tryz.prog 118 21 ir118 [.tmp 4] := Z7 mixed Tryz.func118 (by kernel_rfl) Tryz.ntmps118 (by kernel_rfl) (by kernel_rfl)
def ir119 : ACode := (sQ (.region [oO 4 (.alloc [nS])]) (sQ (sQ (.region [oM 5 0,oM 6 1,oO 7 (kC 123 [(tT 5),(tT 6)]),oO 8 (.una .not (tT 7))]) (.cond (tT 8) (sQ (.region [oO 9 (.build [nS] []),⟨none,.store 1 (tT 4) (tT 9),
 none⟩]) .ret) .skip)) (sQ (.region [oM 10 0,oO 11 (.nilck (tT 10)),oO 12 (.faddr 3 (tT 11)),oO 13 (.load false 1 (tT 12)),oM 14 1,oO 15 (.iaddr 1 (tT 13) (tT 14)),oO 16 (.load true 1 (tT 15)),⟨none,.store 1 (tT 4) (tT 16),
 none⟩]) .ret)))
theorem ok119 : FnOk Tryz.prog 119 17 ir119 [.cell 4 true 1] := Z7 mixed Tryz.func119 (by kernel_rfl) Tryz.ntmps119 (by kernel_rfl) (by kernel_rfl)
def ir123 : ACode := (sQ (.region [oO 4 (.mov kF)]) (sQ (.region [oM 5 0,oO 6 (.bin .neq .ptr (tT 5) (.const (.pointer none))),oM 7 6,oT 7 8 (.mov (tT 1)),oT 7 9 (.bin .geq .num (tT 8) (kI 0)),oO 10 (.pick (tT 7) (tT 9) kF),
 oM 11 10,oT 11 12 (.mov (tT 1)),oT 11 13 (.mov (tT 0)),oT 11 14 (.nilck (tT 13)),oT 11 15 (.faddr 0 (tT 14)),oT 11 16 (.load false 1 (tT 15)),oT 11 17 (.bin .lss .num (tT 12) (tT 16)),oO 18 (.pick (tT 11) (tT 17) kF),
 oM 4 18]) .ret))
theorem ok123 : FnOk Tryz.prog 123 19 ir123 [.tmp 4] := Z7 mixed Tryz.func123 (by kernel_rfl) Tryz.ntmps123 (by kernel_rfl) (by kernel_rfl)
def ir124 : ACode := (sQ (.region [oO 3 (.box (tT 1)),oO 4 (.mov kF)]) (sQ (.region [oM 5 0,oO 6 (.load true 2 (tT 3)),oO 7 (kC 150 [(tT 5),(tT 6)]),oO 8 (.bin .geq .num (tT 7) (kI 0)),oM 4 8]) .ret))
theorem ok124 : FnOk Tryz.prog 124 9 ir124 [.tmp 4] := Z7 mixed Tryz.func124 (by kernel_rfl) Tryz.ntmps124 (by kernel_rfl) (by kernel_rfl)
def ir125 : ACode := (sQ (.region [oO 2 (.mov (.const nS))]) (sQ (sQ (.region [oM 3 0,oO 4 (.bin .eql .ptr (tT 3) (.const (.pointer none)))]) (.cond (tT 4) (sQ (.region [oO 2 (.mov (.const nS))]) .ret) .skip)) (sQ (.region [oM 5 0,
 oO 6 (.nilck (tT 5)),oO 7 (.faddr 1 (tT 6)),oO 8 (.load false 1 (tT 7)),oO 9 (kC 151 [(tT 8)]),oM 2 9]) .ret)))
theorem ok125 : FnOk Tryz.prog 125 10 ir125 [.tmp 2] := Z7 mixed Tryz.func125 (by kernel_rfl) Tryz.ntmps125 (by kernel_rfl) (by kernel_rfl)
def ir126 : ACode := (sQ (.region [oO 4 (.mov kF)]) (sQ (.region [oM 5 0,oM 6 1,oO 7 (kC 152 [(tT 5),(tT 6)]),oO 8 (.bin .geq .num (tT 7) (kI 0)),oM 4 8]) .ret))
theorem ok126 : FnOk Tryz.prog 126 9 ir126 [.tmp 4] := Z7 mixed Tryz.func126 (by kernel_rfl) Tryz.ntmps126 (by kernel_rfl) (by kernel_rfl)
def ir127 : ACode := (sQ (.region [oO 2 (.box (tT 0)),oO 3 (.mov kF)]) (sQ (.region [oO 4 (.load false 1 (tT 1)),oO 5 (.load true 2 (tT 2)),oO 6 (.call (tT 4) [(tT 5)]),oO 7 (.una .not (tT 6)),oM 3 7]) .ret))
theorem ok127 : FnOk Tryz.prog 127 8 ir127 [.tmp 3] := Z7 mixed Tryz.func127 (by kernel_rfl) Tryz.ntmps127 (by kernel_rfl) (by kernel_rfl)
def ir128 : ACode := (sQ (.region [oO 2 (.box (tT 0)),oO 3 (.mov kF)]) (sQ (.region [oO 4 (.load false 1 (tT 1)),oO 5 (.load true 2 (tT 2)),oO 6 (.call (tT 4) [(tT 5)]),oO 7 (.una .not (tT 6)),oM 3 7]) .ret))
theorem ok128 : FnOk Tryz.prog 128 8 ir128 [.tmp 3] := Z7 mixed Tryz.func128 (by kernel_rfl) Tryz.ntmps128 (by kernel_rfl) (by kernel_rfl)
def ir129 : ACode := (sQ (.region [oO 4 (.mov (kI 0))]) (sQ (sQ (.region [oM 6 0,oO 7 (.len (tT 6)),oO 8 (.mov (kI 0))]) (.block 0 (.loop (sQ (.region [oO 9 (.bin .lss .num (tT 8) (tT 7))]) (sQ (.cond (tT 9) .skip (.exit 0)) (sQ (.block 1 (sQ (.region [oM 10 8,
 oM 5 10]) (sQ (.region [oM 11 1,oM 12 0,oM 13 5,oO 14 (.iaddr 5 (tT 12) (tT 13)),oO 15 (.load true 5 (tT 14)),oO 16 (.call (tT 11) [(tT 15)])]) (.cond (tT 16) (sQ (.region [oM 17 5,oM 4 17]) .ret) .skip)))) (.region [oO 18 (.bin .add .num (tT 8) (kI 1)),
 oM 8 18]))))))) (sQ (.region [oO 4 (.mov (.const (.int .i64 (-1))))]) .ret)))
theorem ok129 : FnOk Tryz.prog 129 19 ir129 [.tmp 4] := Z7 mixed Tryz.func129 (by kernel_rfl) Tryz.ntmps129 (by kernel_rfl) (by kernel_rfl)
def ir130 : ACode := (sQ (.region [oO 4 (.alloc [nS])]) (sQ (sQ (.region [oM 5 0,oM 6 1,oO 7 (kC 123 [(tT 5),(tT 6)]),oO 8 (.una .not (tT 7))]) (.cond (tT 8) (sQ (.region [oO 9 (.build [nS] []),⟨none,.store 1 (tT 4) (tT 9),
 none⟩]) .ret) .skip)) (sQ (.region [oM 10 0,oO 11 (.nilck (tT 10)),oO 12 (.faddr 2 (tT 11)),oO 13 (.load false 1 (tT 12)),oM 14 1,oO 15 (.iaddr 1 (tT 13) (tT 14)),oO 16 (.load true 1 (tT 15)),⟨none,.store 1 (tT 4) (tT 16),
 none⟩]) .ret)))
theorem ok130 : FnOk Tryz.prog 130 17 ir130 [.cell 4 true 1] := Z7 mixed Tryz.func130 (by kernel_rfl) Tryz.ntmps130 (by kernel_rfl) (by kernel_rfl)
def ir131 : ACode := (sQ (.region [oO 2 (.mov (kI 0))]) (sQ (sQ (.region [oM 3 0,oO 4 (.bin .geq .num (tT 3) (.const (.int .u64 4294967296)))]) (.cond (tT 4) (sQ (.region [oM 5 0,oO 6 (.bin .shr .num (tT 5) (.const (.int .u64 32))),
 oM 0 6]) (.region [oO 2 (.mov (kI 32))])) .skip)) (sQ (sQ (.region [oM 7 0,oO 8 (.bin .geq .num (tT 7) (.const (.int .u64 65536)))]) (.cond (tT 8) (sQ (.region [oM 9 0,oO 10 (.bin .shr .num (tT 9) (.const (.int .u64 16))),
 oM 0 10]) (.region [oM 11 2,oO 12 (.bin .add .num (tT 11) (kI 16)),oM 2 12])) .skip)) (sQ (sQ (.region [oM 13 0,oO 14 (.bin .geq .num (tT 13) (.const (.int .u64 256)))]) (.cond (tT 14) (sQ (.region [oM 15 0,
 oO 16 (.bin .shr .num (tT 15) (.const (.int .u64 8))),oM 0 16]) (.region [oM 17 2,oO 18 (.bin .add .num (tT 17) (kI 8)),oM 2 18])) .skip)) (sQ (.region [oM 19 2,oM 20 0,oO 21 (.conv .u8 (tT 20)),⟨(some 22),
 .indexS (.const (.string ⟨#[0,1,2,2,3,3,3,3,4,4,4,4,4,4,4,4,5,5,5,5,5,5,5,5,5,5,5,5,5,5,5,5,6,6,6,6,6,6,6,6,6,6,6,6,6,6,6,6,6,6,6,6,6,6,6,6,6,6,6,6,6,6,6,6,7,7,7,7,7,7,7,7,7,7,7,7,7,7,7,7,7,7,7,7,7,7,7,
 7,7,7,7,7,7,7,7,7,7,7,7,7,7,7,7,7,7,7,7,7,7,7,7,7,7,7,7,7,7,7,7,7,7,7,7,7,7,7,7,7,8,8,8,8,8,8,8,8,8,8,8,8,8,8,8,8,8,8,8,8,8,8,8,8,8,8,8,8,8,8,8,8,8,8,8,8,8,8,8,8,8,8,8,8,8,8,8,8,8,8,8,8,8,8,8,8,8,8,8,8,
 8,8,8,8,8,8,8,8,8,8,8,8,8,8,8,8,8,8,8,8,8,8,8,8,8,8,8,8,8,8,8,8,8,8,8,8,8,8,8,8,8,8,8,8,8,8,8,8,8,8,8,8,8,8,8,8,8,8,8,8,8,8,8,8,8,8,8,8]⟩)) (tT 21),none⟩,oO 23 (.conv .i64 (tT 22)),oO 24 (.bin .add .num (tT 19) (tT 23)),
 oM 2 24]) .ret)))))
theorem ok131 : FnOk Tryz.prog 131 25 ir131 [.tmp 2] := Z7 mixed Tryz.func131 (by kernel_rfl) Tryz.ntmps131 (by kernel_rfl) (by kernel_rfl)
def ir142 : ACode := (sQ (.region [oO 2 (.box (tT 0)),oO 3 (.box (tT 1)),oO 4 (.mov (kI 0))]) (sQ (sQ (.region [oO 8 (.faddr 0 (tT 2)),oO 9 (.load false 1 (tT 8)),oO 10 (.len (tT 9)),oO 11 (.faddr 0 (tT 3)),
 oO 12 (.load false 1 (tT 11)),oO 13 (.len (tT 12)),oO 14 (.mx (tT 10) (tT 13)),oO 15 (.mov (kI 0))]) (.block 0 (.loop (sQ (.region [oO 16 (.bin .lss .num (tT 15) (tT 14))]) (sQ (.cond (tT 16) .skip (.exit 0)) (sQ (.block 1 (sQ (.region [oM 17 15,
 oM 5 17]) (sQ (.draw [⟨0,oO 18 (.load true 1 (tT 2)),0,0,false⟩,⟨1,oM 19 5,0,0,false⟩,⟨2,oO 20 (kC 77 [(tT 18),(tT 19)]),3,0,false⟩,⟨3,oO 21 (.load true 1 (tT 3)),0,0,false⟩,⟨4,oM 22 5,0,0,false⟩,⟨5,oO 23 (kC 77 [(tT 21),
 (tT 22)]),31,1,false⟩,⟨6,oO 24 (.bin .xor .num (tT 20) (tT 23)),63,1,false⟩,⟨7,oM 6 24,127,1,false⟩]) (sQ (sQ (.region [oM 25 6,oO 26 (.bin .eql .num (tT 25) (.const (.int .u64 0)))]) (.cond (tT 26) (.exit 1) .skip)) (sQ (.region [oM 27 5,
 oO 28 (.bin .mul .num (kI 64) (tT 27)),oM 29 6,oO 30 (kC 83 [(tT 29)]),oO 31 (.bin .add .num (tT 28) (tT 30)),oM 7 31]) (sQ (sQ (.draw [⟨0,oO 32 (.load true 1 (tT 2)),0,0,false⟩,⟨1,oM 33 7,0,0,false⟩,⟨2,
 oO 34 (kC 35 [(tT 32),(tT 33)]),3,0,false⟩,⟨3,oO 35 (.load true 1 (tT 3)),0,0,false⟩,⟨4,oM 36 7,0,0,false⟩,⟨5,oO 37 (kC 35 [(tT 35),(tT 36)]),31,1,false⟩,⟨6,oO 38 (.bin .eql .bool (tT 34) (tT 37)),63,1,
 false⟩]) (.cond (tT 38) (sQ (.region [oO 4 (.mov (kI 0))]) .ret) .skip)) (sQ (sQ (.region [oO 39 (.load true 1 (tT 2)),oM 40 7,oO 41 (kC 35 [(tT 39),(tT 40)]),oM 42 41,oT 42 43 (.load true 1 (tT 3)),oT 42 44 (.mov (tT 7)),
 oT 42 45 (kC 166 [(tT 43),(tT 44)]),oO 46 (.pick (tT 42) (tT 45) kF),oM 47 46,oF 47 48 (.load true 1 (tT 3)),oF 47 49 (.mov (tT 7)),oF 47 50 (kC 35 [(tT 48),(tT 49)]),oF 47 51 (.mov (tT 50)),oT 51 52 (.load true 1 (tT 2)),
 oT 51 53 (.mov (tT 7)),oT 51 54 (kC 166 [(tT 52),(tT 53)]),oT 51 55 (.una .not (tT 54)),oF 47 56 (.pick (tT 51) (tT 55) kF),oO 57 (.pick (tT 47) kT (tT 56))]) (.cond (tT 57) (sQ (.region [oO 4 (.mov (.const (.int .i64 (-1))))]) .ret) .skip)) (sQ (.region [oO 4 (.mov (kI 1))]) .ret)))))))) (.region [oO 58 (.bin .add .num (tT 15) (kI 1)),
 oM 15 58]))))))) (sQ (.region [oO 4 (.mov (kI 0))]) .ret)))
theorem ok142 : FnOk Tryz.prog 142 59 ir142 [.tmp 4] := Z7 mixed Tryz.func142 (by kernel_rfl) Tryz.ntmps142 (by kernel_rfl) (by kernel_rfl)
def ir143 : ACode := (sQ (.region [oO 2 (.box (tT 0)),oO 3 (.box (tT 1)),oO 4 (.mov kF)]) (sQ (sQ (.region [oO 7 (.faddr 0 (tT 2)),oO 8 (.load false 1 (tT 7)),oO 9 (.len (tT 8)),oO 10 (.faddr 0 (tT 3)),
 oO 11 (.load false 1 (tT 10)),oO 12 (.len (tT 11)),oO 13 (.bin .neq .num (tT 9) (tT 12))]) (.cond (tT 13) (sQ (.region [oO 4 (.mov kF)]) .ret) .skip)) (sQ (sQ (.region [oO 14 (.faddr 0 (tT 2)),oO 15 (.load false 1 (tT 14)),
 oO 16 (.len (tT 15)),oO 17 (.mov (kI 0))]) (.block 0 (.loop (sQ (.region [oO 18 (.bin .lss .num (tT 17) (tT 16))]) (sQ (.cond (tT 18) .skip (.exit 0)) (sQ (.block 1 (sQ (.region [oM 19 17,oO 20 (.iaddr 1 (tT 15) (tT 17)),
 oO 21 (.load false 1 (tT 20)),oM 5 19,oM 6 21]) (sQ (.region [oM 22 6,oO 23 (.faddr 0 (tT 3)),oO 24 (.load false 1 (tT 23)),oM 25 5,oO 26 (.iaddr 1 (tT 24) (tT 25)),oO 27 (.load false 1 (tT 26)),oO 28 (.bin .neq .num (tT 22) (tT 27))]) (.cond (tT 28) (sQ (.region [oO 4 (.mov kF)]) .ret) .skip)))) (.region [oO 29 (.bin .add .num (tT 17) (kI 1)),
 oM 17 29]))))))) (sQ (.region [oO 4 (.mov kT)]) .ret))))
theorem ok143 : FnOk Tryz.prog 143 30 ir143 [.tmp 4] := Z7 mixed Tryz.func143 (by kernel_rfl) Tryz.ntmps143 (by kernel_rfl) (by kernel_rfl)
def ir150 : ACode := (sQ (.region [oO 3 (.box (tT 1)),oO 4 (.mov (kI 0))]) (sQ (sQ (.region [oM 6 0,oO 7 (.len (tT 6)),oO 8 (.mov (kI 0))]) (.block 0 (.loop (sQ (.region [oO 9 (.bin .lss .num (tT 8) (tT 7))]) (sQ (.cond (tT 9) .skip (.exit 0)) (sQ (.block 1 (sQ (.region [oM 10 8,
 oM 5 10]) (sQ (.draw [⟨0,oO 11 (.load true 2 (tT 3)),0,0,false⟩,⟨1,oM 12 0,0,0,false⟩,⟨2,oM 13 5,0,0,false⟩,⟨3,oO 14 (.iaddr 2 (tT 12) (tT 13)),6,0,false⟩,⟨4,oO 15 (.load true 2 (tT 14)),14,0,false⟩,⟨5,
 oO 16 (.bin .eql (.cells [0,0]) (tT 11) (tT 15)),31,1,false⟩]) (.cond (tT 16) (sQ (.region [oM 17 5,oM 4 17]) .ret) .skip)))) (.region [oO 18 (.bin .add .num (tT 8) (kI 1)),oM 8 18]))))))) (sQ (.region [oO 4 (.mov (.const (.int .i64 (-1))))]) .ret)))
theorem ok150 : FnOk Tryz.prog 150 19 ir150 [.tmp 4] := Z7 mixed Tryz.func150 (by kernel_rfl) Tryz.ntmps150 (by kernel_rfl) (by kernel_rfl)
def ir151 : ACode := (sQ (.region [oO 2 (.mov (.const nS))]) (sQ (sQ (.region [oM 3 0,oO 4 (.isnil false (tT 3))]) (.cond (tT 4) (sQ (.region [oO 2 (.mov (.const nS))]) .ret) .skip)) (sQ (.region [oO 5 (.bslice [(.int .i64 0),
 (.int .i64 0)] 0 []),oM 6 0,oO 7 (.append [(.int .i64 0),(.int .i64 0)] 16 (tT 5) (tT 6)),oM 2 7]) .ret)))
theorem ok151 : FnOk Tryz.prog 151 8 ir151 [.tmp 2] := Z7 mixed Tryz.func151 (by kernel_rfl) Tryz.ntmps151 (by kernel_rfl) (by kernel_rfl)
def ir152 : ACode := (sQ (.region [oO 4 (.mov (kI 0))]) (sQ (sQ (.region [oM 6 0,oO 7 (.len (tT 6)),oO 8 (.mov (kI 0))]) (.block 0 (.loop (sQ (.region [oO 9 (.bin .lss .num (tT 8) (tT 7))]) (sQ (.cond (tT 9) .skip (.exit 0)) (sQ (.block 1 (sQ (.region [oM 10 8,
 oM 5 10]) (sQ (.region [oM 11 1,oM 12 0,oM 13 5,oO 14 (.iaddr 2 (tT 12) (tT 13)),oO 15 (.load true 2 (tT 14)),oO 16 (.call (tT 11) [(tT 15)])]) (.cond (tT 16) (sQ (.region [oM 17 5,oM 4 17]) .ret) .skip)))) (.region [oO 18 (.bin .add .num (tT 8) (kI 1)),
 oM 8 18]))))))) (sQ (.region [oO 4 (.mov (.const (.int .i64 (-1))))]) .ret)))
theorem ok152 : FnOk Tryz.prog 152 19 ir152 [.tmp 4] := Z7 mixed Tryz.func152 (by kernel_rfl) Tryz.ntmps152 (by kernel_rfl) (by kernel_rfl)
set_option maxRecDepth 100000
def ir166 : ACode := (sQ (.region [oO 2 (.box (tT 0)),oO 4 (.mov kF)]) (sQ (.region [oO 8 (.load true 1 (tT 2)),oO 9 (kC 108 [(tT 8)]),oM 7 9,oO 10 (.extract (tT 7) 0),oO 11 (.extract (tT 7) 1),oM 5 10,
 oM 6 11]) (sQ (.region [oM 12 6,oM 13 12,oT 13 14 (.mov (tT 5)),oT 13 15 (.mov (tT 1)),oT 13 16 (.bin .gtr .num (tT 14) (tT 15)),oO 17 (.pick (tT 13) (tT 16) kF),oM 4 17]) .ret)))
theorem ok166 : FnOk Tryz.prog 166 18 ir166 [.tmp 4] := Z7 mixed Tryz.func166 (by kernel_rfl) Tryz.ntmps166 (by kernel_rfl) (by kernel_rfl)
end Go.Proofs.YtcgaocnjebhimaaGreatDoor
namespace Go.Proofs.YtcgaocnjebhimaaGreatDoor
open Go.RowKit
attribute [local irreducible] aw opsK dK
def nums (l:List Int):List (List PV):=l.map fun x => [.val (.int .i64 x)]
def words (l:List Nat):List (List PV):=l.map fun (x:Nat) => [.val (.int .u64 (x:Int))]
def setP (l:List Nat):PV:=.agg [.vec (words l) false]
theorem Z2B {α:Type} (l:List α) (g:α→List PV) (hg:∀ x∈l,pureL (g x)):pureLL (l.map g):=by
 refine (Z1V _ _).2 fun p hp=>?_; obtain⟨x,hx,rfl⟩:=List.mem_map.1 hp; exact hg x hx
theorem Z3a (l:List Nat):(setP l).pure:=⟨Z2B _ _ fun _ _=>⟨trivial,trivial⟩,trivial⟩
theorem Z8 (l:List Nat):pureLL (words l):=Z2B _ _ fun _ _=>⟨trivial,trivial⟩
def IsTrim (l:List Nat) (r:PV):Prop:=∃ k,k≤l.length∧(∀ j,k≤j→l.getD j 0=0)∧(k=0 ∨ l.getD (k-1) 0≠0)∧r=setP (l.take k)
theorem Z7w (k:Nat) (h:k≤9223372036854775807):IntKind.i64.wrap (k:Int)=k:=IntWalk.i64_in _ ⟨by omega,by omega⟩
theorem Z4i (l:List Nat):Spec Tryz.prog 29 [.vec (words l) false] (IsTrim l):=by
 refine Z2 ok29 (Nat.le_of_ble_eq_true rfl) fun C hC=>?_
 refine Z3M (k:=0) rfl fun hmax=>?_
 have hlm:l.length≤maxVec:=by simpa [words] using hmax
 refine Zl ?_
 refine Za ?_
 refine go ?_
 refine Z3u (fun k=>k≤l.length∧∀ j,k≤j→l.getD j 0=0) id (fun k => [(0,.vec (words (l.take k)) false),(2,.ptr 0 0 0)]) l.length ⟨Nat.le_refl _,fun j hj=>by simp [List.getD_eq_getElem?_getD,hj]⟩ ⟨by rw [List.take_length]; rfl,rfl,trivial⟩ ?_
 rintro k ⟨hk,hzero⟩
 have hlen:(words (l.take k)).length=k:=by simp [words,hk]
 have hkm:k≤maxVec:=by omega
 (refine go ?_;repeat' (apply B<;>intro hb<;>try cases hb))
 · -- the last word
   have hpos:0<k:=by simpa [hlen] using hb
   have hsub:IntKind.i64.wrap (((words (l.take k)).length:Int)-1)=((k-1:Nat):Int):=by
    rw [hlen,show (k:Int)-1=((k-1:Nat):Int) by omega]; exact Z7w _ (by simp only [maxVec] at hkm;omega)
   refine Z6I (xs:=l.take k) rfl rfl (k-1) hsub (by simp;omega) rfl rfl ?_
   have hget : (l.take k)[k - 1]'(by simp;omega) = l.getD (k - 1) 0 := by
    simp [List.getD_eq_getElem?_getD,show k-1<l.length by omega]
   rw [hget]
   (refine go ?_;repeat' (apply B<;>intro hb<;>try cases hb))
   · refine ZeD (xs := l.take k) rfl 0 (k - 1) rfl (by show some _ = some _; rw [hsub]) (by omega) (by simp; omega) (fun _ => rfl) rfl ?_
     (refine go ?_;repeat' (apply B<;>intro hb<;>try cases hb))
     refine⟨k-1,⟨by omega,fun j hj=>?_⟩,by simp; omega,rfl,rfl,⟨?_,rfl,trivial⟩⟩
     · by_cases hjk : j = k - 1
       · subst hjk; simpa using hb
       · exact hzero j (by omega)
     · show some (PV.vec (words (((l.take k).take (k - 1)).drop 0)) false) = _
       rw [List.drop_zero,List.take_take,Nat.min_eq_left (by omega)]
   · refine Z6 rfl (Z3a (l.take k)) ⟨k, hk, hzero, .inr ?_, rfl⟩
     intro h0
     rw [h0] at hb
     simp at hb
 · refine Z6 rfl (Z3a (l.take k)) ⟨k, hk, hzero, .inl ?_, rfl⟩
   simpa [hlen] using hb
theorem Z1k (l:List Nat) (k:Nat):Spec Tryz.prog 77 [setP l,.val (.int .i64 k)] (· = .val (.int .u64 (l.getD k 0:Nat))):=by
 refine Z2 ok77 (Nat.le_of_ble_eq_true rfl) fun C hC=>?_
 refine Zl ?_
 refine Za ?_
 refine Z5 rfl rfl rfl ?_
 (refine go ?_;repeat' (apply B<;>intro hb<;>try cases hb))
 · have hk : k < l.length := by simpa [words] using hb
   refine Z6I (xs:=l) rfl rfl k rfl hk rfl rfl ?_
   (refine go ?_;repeat' (apply B<;>intro hb<;>try cases hb))
   exact Z6 rfl trivial (by simp [List.getD_eq_getElem?_getD,hk])
 · have hk : l.length ≤ k := by simpa [words] using hb
   exact Z6 rfl trivial (by simp [List.getD_eq_getElem?_getD,hk,pvOf])
def ofW:List Nat→Nat
 | []=>0
 | x :: r=>x+18446744073709551616*ofW r
def Words (l:List Nat):Prop:=∀ x∈l,x<18446744073709551616
theorem Words.getD {l:List Nat} (h:Words l) (k:Nat):l.getD k 0<18446744073709551616:=by
 rw [List.getD_eq_getElem?_getD]
 cases hk:l[k]? with
 | none=>simp
 | some x=>exact h x (List.mem_of_getElem? hk)
theorem Z2c:∀ {l:List Nat},Words l→∀ i,(ofW l).testBit i=(l.getD (i / 64) 0).testBit (i % 64)
 | [],_,i=>by simp [ofW]
 | x :: r, h, i => by
   have hx:x<2 ^ 64:=h x (by simp)
   have hr:Words r:=fun y hy=>h y (by simp [hy])
   have he:ofW (x :: r)=2 ^ 64*ofW r+x:=by simp only [ofW]; omega
   rw [he,Nat.testBit_two_pow_mul_add _ hx]
   by_cases hi:i<64
   · rw [if_pos hi,Nat.div_eq_of_lt hi,Nat.mod_eq_of_lt hi]; rfl
   · rw [if_neg hi, Z2c hr]
     have h1:i / 64=(i-64) / 64+1:=by omega
     have h2:(i-64) % 64=i % 64:=by omega
     rw [h1,h2]
     rfl
theorem Z5m:∀ {l:List Nat},(∀ j,l.getD j 0=0)→ofW l=0
 | [],_=>rfl
 | x :: r, h => by
   have h0:x=0:=h 0
   have hr:ofW r=0:=Z5m fun j=>h (j+1)
   simp [ofW,h0,hr]
theorem ZaK:∀ {l:List Nat} {k:Nat},(∀ j,k≤j→l.getD j 0=0)→ofW (l.take k)=ofW l
 | [],k,_=>by simp
 | x :: r,0,h=>by simp only [List.take_zero]; exact (Z5m fun j=>h j (Nat.zero_le _)).symm
 | x :: r, k + 1, h => by
   simp only [List.take_succ_cons,ofW]
   rw [ZaK (l:=r) (k:=k) fun j hj=>h (j+1) (by omega)]
def digs (N:Nat):List Nat:=if h:N=0 then [] else N % 18446744073709551616 :: digs (N / 18446744073709551616)
termination_by N
decreasing_by omega
theorem ZF:digs 0 = []:=by rw [digs]; simp
theorem Z3w {N:Nat} (h:N≠0):digs N=N % 18446744073709551616 :: digs (N / 18446744073709551616):=by rw [digs]; simp [h]
theorem Z2C (N:Nat):Words (digs N):=by
 induction N using Nat.strongRecOn with
 | _ N ih =>
   by_cases h:N=0
   · rw [h,ZF]; intro x hx; cases hx
   · rw [Z3w h]
     intro x hx
     rcases List.mem_cons.1 hx with rfl|hx
     · omega
     · exact ih _ (by omega) x hx
theorem Z5n (N:Nat):ofW (digs N)=N:=by
 induction N using Nat.strongRecOn with
 | _ N ih =>
   by_cases h:N=0
   · rw [h,ZF]; rfl
   · rw [Z3w h,ofW,ih _ (by omega)]; omega
def Canon (l:List Nat):Prop:=l.length=0 ∨ l.getD (l.length-1) 0≠0
theorem ZaL:∀ {l:List Nat},Words l→Canon l→digs (ofW l)=l
 | [],_,_=>by simp [ofW,ZF]
 | x :: r, h, hc => by
   have hx:x<18446744073709551616:=h x (by simp)
   have hr:Words r:=fun y hy=>h y (by simp [hy])
   have hcr:Canon r:=by
    cases r with
    | nil=>exact .inl rfl
    | cons y s => refine .inr ?_; rcases hc with hc | hc
                  · simp at hc
                  · simpa using hc
   have ih:=ZaL hr hcr
   have hne:ofW (x :: r)≠0:=by
    simp only [ofW]
    cases r with
    | nil => rcases hc with hc | hc
             · simp at hc
             · simp at hc; simp [ofW]; exact hc
    | cons y s =>
      have:ofW (y :: s)≠0:=fun h0=>by rw [h0,ZF] at ih; cases ih
      omega
   have h1:ofW (x :: r) % 18446744073709551616=x:=by simp only [ofW]; omega
   have h2:ofW (x :: r) / 18446744073709551616=ofW r:=by simp only [ofW]; omega
   rw [Z3w hne,h1,h2,ih]
def setN (N:Nat):PV:=setP (digs N)
theorem Z1 (N:Nat):(setN N).pure:=Z3a _
theorem ZaM {l:List Nat} (h:Words l) (hc:Canon l):setP l=setN (ofW l):=by rw [setN,ZaL h hc]
theorem IsTrim.set {l:List Nat} (hl:Words l) {r:PV} (h:IsTrim l r):r=setN (ofW l):=by
 obtain⟨k,hk,hz,hn,rfl⟩:=h
 rw [← ZaK hz]
 refine ZaM (fun x hx=>hl x (List.mem_of_mem_take hx)) ?_
 rcases hn with rfl|hn
 · exact .inl (by simp)
 · by_cases h0 : k = 0
   · subst h0; exact .inl (by simp)
   · refine .inr ?_
     have e:(l.take k).length=k:=by simp [hk]
     rw [e]
     simpa [List.getD_eq_getElem?_getD,List.getElem?_take,show k-1<k by omega] using hn
theorem Z8m (l:List Nat) (k v:Nat):(words l).set k [.val (.int .u64 (v:Int))]=words (l.set k v):=by simp [words,List.map_set]
theorem Words.set {l:List Nat} (h:Words l) (k:Nat) {v:Nat} (hv:v<18446744073709551616):Words (l.set k v):=fun x hx=>by
 rcases List.mem_or_eq_of_mem_set hx with hx|rfl
 · exact h x hx
 · exact hv
theorem ZfL {l:List Nat} (h:Words l) {k j:Nat} (hk:k<l.length) (hj:j<64):ofW (l.set k (l.getD k 0 ||| 2 ^ j))=ofW l ||| 2 ^ (64*k+j):=by
 have hv:l.getD k 0 ||| 2 ^ j<18446744073709551616:=Nat.or_lt_two_pow (n:=64) (h.getD k) (Nat.pow_lt_pow_right (by omega) hj)
 refine Nat.eq_of_testBit_eq fun i=>?_
 rw [Z2c (h.set k hv),Nat.testBit_or,Z2c h,Nat.testBit_two_pow]
 by_cases hik:i / 64=k
 · subst hik
   have:(l.set (i / 64) (l.getD (i / 64) 0 ||| 2 ^ j)).getD (i / 64) 0=l.getD (i / 64) 0 ||| 2 ^ j:=by simp [List.getD_eq_getElem?_getD,hk]
   rw [this,Nat.testBit_or,Nat.testBit_two_pow]
   congr 1
   rw [decide_eq_decide]
   omega
 · have : (l.set k (l.getD k 0 ||| 2 ^ j)).getD (i / 64) 0 = l.getD (i / 64) 0 := by
    simp only [List.getD_eq_getElem?_getD,List.getElem?_set,if_neg (Ne.symm hik)]
   rw [this]
   have:¬ (64*k+j=i):=by omega
   simp [this]
def maskTo (top:Int) (l:List Int):Nat:=l.foldl (fun acc i=>if 0≤i∧i≤top then acc ||| 2 ^ i.toNat else acc) 0
def topOf (l:List Int):Int:=l.foldl (fun t i=>if i≤4095 then (if i>t then i else t) else t) (-1)
theorem Z6M {l:List Int} {i:Nat} (hi:i<l.length):topOf (l.take (i+1))=if l[i]≤4095 then (if l[i]>topOf (l.take i) then l[i] else topOf (l.take i)) else topOf (l.take i):=by
 simp only [topOf,List.take_add_one,List.getElem?_eq_getElem hi,Option.toList_some,List.foldl_append,List.foldl_cons,List.foldl_nil]
 rfl
theorem topOf_take' {l:List Int} {i:Nat} (hi:i<l.length) (h:l[i]≤4095):topOf (l.take (i+1))=if l[i]>topOf (l.take i) then l[i] else topOf (l.take i):=by rw [Z6M hi,if_pos h]
theorem Z9q {l:List Int} {i:Nat} (hi:i<l.length) (h:¬ l[i]≤4095):topOf (l.take (i+1))=topOf (l.take i):=by rw [Z6M hi,if_neg h]
theorem Z5J {t:Int} {l:List Int} {i:Nat} (hi:i<l.length):maskTo t (l.take (i+1))=if 0≤l[i]∧l[i]≤t then maskTo t (l.take i) ||| 2 ^ l[i].toNat else maskTo t (l.take i):=by
 simp only [maskTo,List.take_add_one,List.getElem?_eq_getElem hi,Option.toList_some,List.foldl_append,List.foldl_cons,List.foldl_nil]
theorem Z9r:∀ (l:List Int),-1≤topOf l∧topOf l≤4095:=by
 intro l
 have:∀ (l:List Int) (t:Int),-1≤t→t≤4095 → -1≤l.foldl (fun t i=>if i≤4095 then (if i>t then i else t) else t) t∧l.foldl (fun t i=>if i≤4095 then (if i>t then i else t) else t) t≤4095:=by
  intro l
  induction l with
  | nil=>intro t h1 h2; exact⟨h1,h2⟩
  | cons x r ih =>
    intro t h1 h2
    simp only [List.foldl_cons]
    refine ih _ ?_ ?_
    · split
      · split<;>omega
      · exact h1
    · split
      · split<;>omega
      · exact h2
 exact this l (-1) (by omega) (by omega)
theorem ZbL {t:Int} {l:List Int} (h:t<0):maskTo t l=0:=by
 have:∀ (l:List Int) (a:Nat),l.foldl (fun acc i=>if 0≤i∧i≤t then acc ||| 2 ^ i.toNat else acc) a=a:=by
  intro l
  induction l with
  | nil=>intro a; rfl
  | cons x r ih=>intro a; simp only [List.foldl_cons]; rw [if_neg (by omega)]; exact ih a
 exact this l 0
theorem Zt (l:List Int):pureLL (nums l):=Z2B _ _ fun _ _=>⟨trivial,trivial⟩
theorem Z4j (l:List Int) (D:Nat→Prop):innLL D (nums l):=Zg (fun _ h=>h.elim) _ (Zt l)
theorem Zh (l:List Nat) (D:Nat→Prop):innLL D (words l):=Zg (fun _ h=>h.elim) _ (Z8 l)
set_option maxHeartbeats 1000000 in
theorem Zd4 (l:List Int) (fl:Bool):Spec Tryz.prog 9 [.vec (nums l) fl] (· = setN (maskTo (topOf l) l)):=by
 refine Z2 ok9 (Nat.le_of_ble_eq_true rfl) fun C hC=>?_
 refine Z3M (k:=0) rfl fun hmax=>?_
 have hlm:l.length≤maxVec:=by simpa [nums] using hmax
 have hnl:(nums l).length=l.length:=by simp [nums]
 refine go ?_
 refine Z3u (fun i=>i≤l.length) (fun i=>l.length-i) (fun i => [(0,.vec (nums l) fl),(2,.ptr 0 0 0),(3,.val (.int .i64 (topOf (l.take i)))),(9,.vec (nums l) fl),(10,.val (.int .i64 (l.length:Int))),(11,.val (.int .i64 (i:Int)))]) 0 (Nat.zero_le _) ⟨rfl,rfl,rfl,rfl,by rw [← hnl]; rfl,rfl,trivial⟩ ?_
 intro i hi
 have hinc:IntKind.i64.wrap ((i:Int)+1)=((i+1:Nat):Int):=IntWalk.i64_in _ ⟨by omega,by simp only [maxVec] at hlm; omega⟩
 (refine go ?_;repeat' (apply B<;>intro hb<;>try cases hb))
 · have hil : i < l.length := by simpa using hb
   refine Z3 (Zn (xs:=l) rfl rfl i rfl hil rfl) rfl rfl ?_
   (refine go ?_;repeat' (apply B<;>intro hb<;>try cases hb))
   · refine ⟨i + 1, by omega, by omega, rfl, rfl, ⟨rfl, rfl, ?_, rfl, rfl, by show some _ = some _; rw [hinc], trivial⟩⟩
     rw [topOf_take' hil (by simpa using hb)]; rfl
   · refine ⟨i + 1, by omega, by omega, rfl, rfl, ⟨rfl, rfl, ?_, rfl, rfl, by show some _ = some _; rw [hinc], trivial⟩⟩
     rw [Z9q hil (by simpa using hb)]; rfl
 · -- no member
   rename_i hb2
   have hil:i=l.length:=by simp at hb2; omega
   subst hil
   refine Z1c rfl ⟨trivial,trivial⟩ ?_
   rw [List.take_length] at hb
   have hlt:topOf l<0:=by simpa using hb
   rw [ZbL hlt,setN,ZF]
   rfl
 · rename_i hb2
   have hil:i=l.length:=by simp at hb2; omega
   subst hil
   rw [List.take_length] at hb ⊢
   have hge:0≤topOf l:=by simpa using hb
   obtain⟨t,ht⟩:∃ t:Nat,topOf l=t:=⟨(topOf l).toNat,by omega⟩
   have htr:=(Z9r l).2
   rw [ht] at htr ⊢
   have hq:IntKind.i64.wrap ((t:Int).tdiv 64)=((t / 64:Nat):Int):=by
    rw [IntWalk.i64_quo _ _ ⟨by omega,by omega,by omega⟩]; omega
   have hq1:IntKind.i64.wrap (((t / 64:Nat):Int)+1)=((t / 64+1:Nat):Int):=IntWalk.i64_in _ ⟨by omega,by omega⟩
   rw [hq,hq1]
   refine ZD (ZaH (a:=t / 64+1) (b:=t / 64+1) rfl rfl (Nat.le_refl _) (by omega)) rfl rfl ?_
   have hrep:List.replicate (t / 64+1) (zpv [Value.int .u64 0])=words (List.replicate (t / 64+1) 0):=by simp [words,zpv,pvOf]
   rw [hrep]
   refine go ?_
   refine ZG hC (fun (x:Nat×List Nat)=>x.1≤l.length∧x.2.length=t / 64+1∧Words x.2∧ofW x.2=maskTo t (l.take x.1)) (fun x=>l.length-x.1) 2 (fun x => [(2,.ptr 0 0 0),(3,.val (.int .i64 (t:Int))),(6,.own 1),(28,.vec (nums l) fl),(29,.val (.int .i64 (l.length:Int))),(30,.val (.int .i64 (x.1:Int)))])
    (fun x => [(0,⟨1,[[.vec [] true]]⟩),(1,⟨1,words x.2⟩)]) (by omega) (0,List.replicate (t / 64+1) 0) ⟨Nat.zero_le _,by simp,fun x hx=>by obtain rfl:=List.eq_of_mem_replicate hx; omega,?_⟩ ⟨⟨rfl,show (0:Nat)<2 by decide⟩,⟨rfl,trivial⟩,⟨rfl,show (1:Nat)<2 by decide⟩,⟨rfl,Z4j _ _⟩,⟨by rw [← hnl]; rfl,trivial⟩,⟨rfl,trivial⟩,trivial⟩
    ⟨⟨by omega,rfl,⟨trivial,trivial⟩,trivial⟩,⟨by omega,rfl,Zh _ _⟩,trivial⟩ ?_
   · rw [Z5m fun j=>by simp [List.getD_eq_getElem?_getD,List.getElem?_replicate]; split<;>rfl]; rfl
   rintro⟨i,ws⟩ ⟨hi,hwl,hww,hmask⟩
   simp only at hi hwl hww hmask
   have hinc:IntKind.i64.wrap ((i:Int)+1)=((i+1:Nat):Int):=IntWalk.i64_in _ ⟨by omega,by simp only [maxVec] at hlm; omega⟩
   (refine go ?_;repeat' (apply B<;>intro hb<;>try cases hb))
   · have hil : i < l.length := by simpa using hb
     refine Z3 (Zn (xs:=l) rfl rfl i rfl hil rfl) rfl rfl ?_
     (refine go ?_;repeat' (apply B<;>intro hb<;>try cases hb))
     · have h0 : 0 ≤ l[i] := by rename_i h0; simpa using h0
       have h1:l[i]≤(t:Int):=by simpa using hb
       have hm:maskTo t (l.take (i+1))=maskTo t (l.take i) ||| 2 ^ l[i].toNat:=by rw [Z5J hil,if_pos ⟨h0,h1⟩]
       obtain⟨j,hj⟩:∃ j:Nat,l[i]=j:=⟨l[i].toNat,by omega⟩
       rw [hj] at h1 hm ⊢
       rw [Int.toNat_natCast] at hm
       have hjq:IntKind.i64.wrap ((j:Int).tdiv 64)=((j / 64:Nat):Int):=by
        rw [IntWalk.i64_quo _ _ ⟨by omega,by omega,by omega⟩]; omega
       have hjr:(j:Int).tmod 64=((j % 64:Nat):Int):=by
        rw [Int.tmod_eq_emod_of_nonneg (by omega)]; omega
       rw [hjq]
       have hjl:j / 64<ws.length:=by omega
       have hel:(words ws).getD (j / 64) [] = [.val (.int .u64 (ws.getD (j / 64) 0:Nat))]:=by simp [words,List.getD_eq_getElem?_getD,hjl]
       have hj64:j % 64<64:=Nat.mod_lt _ (by omega)
       have hwn:(words ws).length=ws.length:=by simp [words]
       refine Zi (Zv rfl rfl rfl (j / 64) rfl (by rw [hwn]; exact hjl) rfl) rfl rfl ?_
       refine Zi (Z1L rfl rfl (by rw [hwn]; exact hjl) (by rw [hel]; rfl)) rfl rfl ?_
       (first|refine st ?_|(apply B<;>intro hb<;>try cases hb))
       refine Zi (Z2r rfl hjr) rfl rfl ?_
       refine Zi (ZcX rfl rfl (by omega) (v:=((2 ^ (j % 64):Nat):Int)) (by
        rw [show min (((j % 64:Nat):Int)).toNat IntKind.u64.bits=j % 64 by simp [IntKind.bits]; omega]
        have:2 ^ (j % 64)<2 ^ 64:=Nat.pow_lt_pow_right (by omega) hj64
        rw [Int.one_mul,show (2:Int) ^ (j % 64)=((2 ^ (j % 64):Nat):Int) by simp]
        exact IntWalk.u64_in _ ⟨Int.natCast_nonneg _,Int.ofNat_le.2 (show _≤18446744073709551615 by omega)⟩)) rfl rfl ?_
       refine Zi (Z2r rfl (bits_or_u64_nat _ _ (hww.getD _) (show 2 ^ (j % 64)<2 ^ 64 from Nat.pow_lt_pow_right (by omega) hj64))) rfl rfl ?_
       refine Zi (Zv rfl rfl rfl (j / 64) rfl (by rw [hwn]; exact hjl) rfl) rfl rfl ?_
       refine Zi (Z2s rfl rfl rfl rfl rfl (by rw [hwn]; exact hjl) (Nat.le_refl _)) rfl rfl ?_
       rw [hel,show setAt [PV.val (Value.int .u64 (ws.getD (j / 64) 0:Nat))] 0 (PV.val (Value.int .u64 ((ws.getD (j / 64) 0 ||| 2 ^ (j % 64):Nat):Int))).cells = [.val (.int .u64 ((ws.getD (j / 64) 0 ||| 2 ^ (j % 64):Nat):Int))] from rfl]
       simp only
       rw [Z8m]
       (refine go ?_;repeat' (apply B<;>intro hb<;>try cases hb))
       refine⟨(i+1,ws.set (j / 64) (ws.getD (j / 64) 0 ||| 2 ^ (j % 64))),⟨by simp only; omega,by simpa using hwl,hww.set _ (Nat.or_lt_two_pow (n:=64) (hww.getD _) (Nat.pow_lt_pow_right (a:=2) (by omega) hj64)),?_⟩,by simp only; omega,⟨⟨rfl,show (0:Nat)<2 by decide⟩,⟨rfl,trivial⟩,⟨rfl,show (1:Nat)<2 by decide⟩,⟨rfl,Z4j _ _⟩,⟨rfl,trivial⟩,⟨by show some _=some _; rw [hinc],trivial⟩,trivial⟩,⟨⟨by omega,rfl,⟨trivial,trivial⟩,trivial⟩,⟨by omega,rfl,Zh _ _⟩,trivial⟩⟩
       simp only
       rw [ZfL hww hjl hj64,hm,hmask,show 64*(j / 64)+j % 64=j by omega]
     all_goals
      refine⟨(i+1,ws),⟨by simp only; omega,hwl,hww,?_⟩,by simp only; omega,⟨⟨rfl,show (0:Nat)<2 by decide⟩,⟨rfl,trivial⟩,⟨rfl,show (1:Nat)<2 by decide⟩,⟨rfl,Z4j _ _⟩,⟨rfl,trivial⟩,⟨by show some _=some _; rw [hinc],trivial⟩,trivial⟩,⟨⟨by omega,rfl,⟨trivial,trivial⟩,trivial⟩,⟨by omega,rfl,Zh _ _⟩,trivial⟩⟩
      simp only
      rw [Z5J hil,if_neg (by simp at hb;omega)]
      exact hmask
   · have hil : i = l.length := by simp at hb; omega
     subst hil
     refine Zc (Zo (k:=52) rfl rfl (Z8 ws)) ?_
     refine ZB rfl rfl (Z4i ws) ⟨Z8 ws,trivial⟩ rfl fun r hr=>?_
     obtain rfl:=hr.set hww
     refine go ?_
     exact Z6 (r:=setN (ofW ws)) rfl (Z1 _) (by rw [hmask,List.take_length])
theorem Z7x (a k:Nat):Int.fdiv (a:Int) (2 ^ k)=((a / 2 ^ k:Nat):Int):=by
 rw [Int.fdiv_eq_ediv_of_nonneg _ (by exact Int.le_of_lt (Int.pow_pos (by omega)))]
 simp
theorem ZaN (l:List Nat) (hl:Words l) (i:Int):Spec Tryz.prog 35 [setP l,.val (.int .i64 i)] (· = .val (.bool (decide (0≤i∧i≤4095)&&(l.getD (i.toNat / 64) 0).testBit (i.toNat % 64)))):=by
 refine Z2 ok35 (Nat.le_of_ble_eq_true rfl) fun C hC=>?_
 refine Zl ?_
 refine Za ?_
 refine Z5 rfl rfl rfl ?_
 (refine go ?_;repeat' (apply B<;>intro hb<;>try cases hb))
 · rename_i h0
   have h1:0≤i:=by simpa using h0
   have h2:i≤4095:=by simpa using hb
   obtain⟨j,rfl⟩:∃ j:Nat,i=j:=⟨i.toNat,by omega⟩
   have hq:IntKind.i64.wrap ((j:Int).tdiv 64)=((j / 64:Nat):Int):=by
    rw [IntWalk.i64_quo _ _ ⟨by omega,by omega,by omega⟩]; omega
   have hr:(j:Int).tmod 64=((j % 64:Nat):Int):=by
    rw [Int.tmod_eq_emod_of_nonneg (by omega)]; omega
   refine Z4 (Z1k l (j / 64)) rfl rfl (by show [_,_]=_; rw [hq]; rfl) ⟨Z3a l,trivial,trivial⟩ rfl ?_
   refine Zq rfl ?_
   (first|refine st ?_|(apply B<;>intro hb<;>try cases hb))
   refine Zq rfl ?_
   refine Zm rfl rfl rfl hr ?_
   refine Zq rfl ?_
   have hw:=hl.getD (j / 64)
   have hm:j % 64<64:=Nat.mod_lt _ (by omega)
   refine Z7t rfl rfl (by omega) (v:=((l.getD (j / 64) 0 / 2 ^ (j % 64):Nat):Int)) (by
    rw [show min (((j % 64:Nat):Int)).toNat IntKind.u64.bits=j % 64 by simp [IntKind.bits]; omega]
    exact Z7x _ _) rfl ?_
   refine Zq rfl ?_
   refine Zm rfl rfl rfl (and_one_u64 _ (Int.natCast_nonneg _) (by
    have:=Nat.div_le_self (l.getD (j / 64) 0) (2 ^ (j % 64))
    exact Int.ofNat_le.2 (show _≤18446744073709551615 by omega))) ?_
   have ht:(((l.getD (j / 64) 0 / 2 ^ (j % 64):Nat):Int) % 2 == 1)=(l.getD (j / 64) 0).testBit (j % 64):=by
    rw [Nat.testBit_eq_decide_div_mod_eq,Bool.eq_iff_iff]
    generalize l.getD (j / 64) 0 / 2 ^ (j % 64)=z
    simp only [beq_iff_eq,decide_eq_true_eq]
    omega
   have ht':(decide (0≤(j:Int)∧(j:Int)≤4095)&&(l.getD ((j:Int).toNat / 64) 0).testBit ((j:Int).toNat % 64))=(l.getD (j / 64) 0).testBit (j % 64):=by
    simp only [Int.toNat_natCast,decide_eq_true (show 0≤(j:Int)∧(j:Int)≤4095 from ⟨h1,h2⟩),Bool.true_and]
   rw [ht',← ht]
   refine Zq rfl ?_
   generalize (((l.getD (j / 64) 0 / 2 ^ (j % 64):Nat):Int) % 2)=z
   (refine go ?_;repeat' (apply B<;>intro hb<;>try cases hb))
   all_goals exact Z6 rfl trivial (by rw [hb])
 · exact Z6 rfl trivial (by simp at hb ⊢;omega)
 · exact Z6 rfl trivial (by simp at hb ⊢;omega)
def rep (c:Nat):Nat→Nat
 | 0=>0
 | n+1=>c+256*rep c n
def s1 (m x:Nat):Nat:=(x / 2 &&& m)+(x &&& m)
def s2 (m x:Nat):Nat:=(x / 4 &&& m)+(x &&& m)
def s3 (m x:Nat):Nat:=(x / 16+x) &&& m
theorem Z9s (l:List Int):(nums l).length=l.length:=by simp [nums]
theorem Zd5 (N:Nat) (r:Int) (h1:0≤r) (h2:r≤4095):Spec Tryz.prog 35 [.agg [.vec (words (digs N)) false],.val (.int .i64 r)] (· = .val (.bool (N.testBit r.toNat))):=by
 have h:=ZaN (digs N) (Z2C N) r
 rw [decide_eq_true (⟨h1,h2⟩:0≤r∧r≤4095),Bool.true_and,← Z2c (Z2C N),Z5n] at h
 exact h
theorem Z5K (N j:Nat):((((N / 2 ^ j % 2:Nat):Int)) == 1)=N.testBit j:=by
 rw [Nat.testBit_eq_decide_div_mod_eq,Bool.eq_iff_iff]
 simp only [beq_iff_eq,decide_eq_true_eq]
 omega
theorem Z3b (N j:Nat) (h:j<64):Int.fdiv (N:Int) (2 ^ (min ((j:Nat):Int).toNat IntKind.u64.bits))=((N / 2 ^ j:Nat):Int):=by
 rw [show min (((j:Nat):Int)).toNat IntKind.u64.bits=j by simp [IntKind.bits]; omega]
 exact Z7x _ _
theorem Z2P (N j:Nat):(((N / 2 ^ j:Nat):Int)).tmod 2=((N / 2 ^ j % 2:Nat):Int):=by
 generalize N / 2 ^ j=z
 rw [Int.tmod_eq_emod_of_nonneg (by omega)]; omega
theorem ZbM (N:Nat):Canon (digs N):=by
 induction N using Nat.strongRecOn with
 | _ N ih =>
   by_cases h:N=0
   · rw [h,ZF]; exact .inl rfl
   · rw [Z3w h]
     refine .inr ?_
     have:=ih (N / 18446744073709551616) (by omega)
     cases hd:digs (N / 18446744073709551616) with
     | nil =>
       have h0:=Z5n (N / 18446744073709551616)
       rw [hd] at h0
       simp only [ofW] at h0
       simp
       omega
     | cons y s =>
       rw [hd] at this
       rcases this with h|h
       · simp at h
       · simpa using h
theorem Zd6:∀ (l:List Nat) (k:Nat),ofW (l++List.replicate k 0)=ofW l
 | [], k => by
   rw [List.nil_append]
   exact Z5m fun j=>by rw [List.getD_eq_getElem?_getD,List.getElem?_replicate]; split<;>rfl
 | x :: r,k=>by simp only [List.cons_append,ofW,Zd6 r k]
theorem Zd7 (x j:Nat):x ||| 2 ^ j≠0:=fun h=>by
 have:=congrArg (fun z=>Nat.testBit z j) h
 simp [Nat.testBit_or] at this
theorem ZbN (N i:Nat) (h:i≤4095) (L:Nat) (hL:L=max (digs N).length (i / 64+1)) :
 let l:=digs N++List.replicate (L-(digs N).length) 0
 Words l∧l.length=L∧i / 64<l.length∧∃ v,v=l.getD (i / 64) 0 ||| 2 ^ (i % 64)∧setP (l.set (i / 64) v)=setN (N ||| 2 ^ i):=by
 intro l
 have hw:Words l:=fun x hx=>by
  rcases List.mem_append.1 hx with hx|hx
  · exact Z2C N x hx
  · rw [List.eq_of_mem_replicate hx]; omega
 have hl:l.length=L:=by simp [l]; omega
 have hi:i / 64<l.length:=by omega
 refine⟨hw,hl,hi,_,rfl,?_⟩
 have hm:i % 64<64:=Nat.mod_lt _ (by omega)
 have hv:l.getD (i / 64) 0 ||| 2 ^ (i % 64)<18446744073709551616:=Nat.or_lt_two_pow (n:=64) (hw.getD _) (Nat.pow_lt_pow_right (by omega) hm)
 have hc:Canon (l.set (i / 64) (l.getD (i / 64) 0 ||| 2 ^ (i % 64))):=by
  refine .inr ?_
  rw [List.length_set,hl]
  by_cases he:L-1=i / 64
  · rw [he, List.getD_eq_getElem?_getD, List.getElem?_set]
    simp only [if_pos hi,if_true,Option.getD_some]
    exact Zd7 _ _
  · have hLd : L = (digs N).length := by omega
    rw [List.getD_eq_getElem?_getD,List.getElem?_set,if_neg (Ne.symm he),← List.getD_eq_getElem?_getD]
    have hl2:l=digs N:=by simp [l,hLd]
    rw [hl2,hLd]
    rcases ZbM N with h0|h0
    · omega
    · exact h0
 rw [ZaM (hw.set _ hv) hc,ZfL hw hi hm,Zd6,Z5n,show 64*(i / 64)+i % 64=i by omega]
def withN (N:Nat) (i:Int):Nat:=if 0≤i∧i≤4095 then N ||| 2 ^ i.toNat else N
theorem Zd8 {N i:Nat} (h:N.testBit i=true):N ||| 2 ^ i=N:=by
 refine Nat.eq_of_testBit_eq fun j=>?_
 rw [Nat.testBit_or,Nat.testBit_two_pow]
 by_cases hj:i=j
 · subst hj; simp [h]
 · simp [hj]
set_option maxHeartbeats 1000000 in
theorem Z3c (N:Nat) (hN:(digs N).length≤64) (i:Int):Spec Tryz.prog 78 [setN N,.val (.int .i64 i)] (· = setN (withN N i)):=by
 refine Z2 ok78 (Nat.le_of_ble_eq_true rfl) fun C hC=>?_
 refine Zl ?_
 refine Za ?_
 refine Z5 rfl rfl rfl ?_
 (refine go ?_;repeat' (apply B<;>intro hb<;>try cases hb))
 · refine Z6 rfl (Z1 N) ?_
   rw [withN,if_neg (by simp at hb;omega)]; rfl
 · refine Z6 rfl (Z1 N) ?_
   rw [withN,if_neg (by simp at hb;omega)]; rfl
 rename_i h0
 have h1:0≤i:=by simp at h0; omega
 have h2:i≤4095:=by simp at hb; omega
 obtain⟨j,rfl⟩:∃ j:Nat,i=j:=⟨i.toNat,by omega⟩
 rw [withN,if_pos ⟨h1,h2⟩,Int.toNat_natCast]
 have hs:=Zd5 N j h1 h2
 rw [Int.toNat_natCast] at hs
 refine Z4 hs rfl rfl rfl ⟨⟨Z8 _,trivial⟩,trivial,trivial⟩ rfl ?_
 cases ht:N.testBit j with
 | true =>
   refine go ?_
   refine Z6 rfl (Z1 N) ?_
   rw [Zd8 ht]; rfl
 | false =>
   have hdl:(words (digs N)).length=(digs N).length:=by simp [words]
   obtain⟨hw,hl,hi,v,hv,hset⟩:=ZbN N j (by omega) _ rfl
   have hq:IntKind.i64.wrap ((j:Int).tdiv 64)=((j / 64:Nat):Int):=by
    rw [IntWalk.i64_quo _ _ ⟨by omega,by omega,by omega⟩]; omega
   have hr:(j:Int).tmod 64=((j % 64:Nat):Int):=by
    rw [Int.tmod_eq_emod_of_nonneg (by omega)]; omega
   have hq1:IntKind.i64.wrap (((j / 64:Nat):Int)+1)=((j / 64+1:Nat):Int):=IntWalk.i64_in _ ⟨by omega,by omega⟩
   have hmax:(if ((j / 64+1:Nat):Int)>(((words (digs N)).length:Nat):Int) then ((j / 64+1:Nat):Int) else (((words (digs N)).length:Nat):Int))=((max (digs N).length (j / 64+1):Nat):Int):=by
    rw [hdl]; split<;>omega
   generalize max (digs N).length (j / 64+1)=L at *
   refine go ?_
   rw [hq,hq1,hmax]
   refine ZD (ZaH (a:=L) (b:=L) rfl rfl (Nat.le_refl _) (by omega)) rfl rfl ?_
   have hrep:List.replicate L (zpv [Value.int .u64 0])=words (List.replicate L 0):=by simp [words,zpv,pvOf]
   rw [hrep]
   have hcopy:(words (digs N)).take (words (List.replicate L 0)).length++(words (List.replicate L 0)).drop (words (digs N)).length=words (digs N++List.replicate (L-(digs N).length) 0):=by
    have hle:(digs N).length≤L:=by omega
    have e1:(words (List.replicate L 0)).length=L:=by simp [words]
    rw [e1,List.take_of_length_le (by rw [hdl]; exact hle),hdl]
    simp [words,List.map_append,List.drop_replicate]
   have hwl:∀ c∈words (digs N),c.length=1:=fun c hc=>by obtain⟨x,_,rfl⟩:=List.mem_map.1 hc; rfl
   iterate 7 (first|refine st ?_|(apply B<;>intro hb<;>try cases hb))
   refine Z3 (ZgM (k:=1) rfl rfl rfl hwl rfl) rfl rfl ?_
   simp only
   rw [hcopy]
   generalize digs N++List.replicate (L-(digs N).length) 0=ws at *
   have hm64:j % 64<64:=Nat.mod_lt _ (by omega)
   have hwn:(words ws).length=ws.length:=by simp [words]
   have hel:(words ws).getD (j / 64) [] = [.val (.int .u64 (ws.getD (j / 64) 0:Nat))]:=by simp [words,List.getD_eq_getElem?_getD,hi]
   refine go ?_
   rw [hq]
   refine Zi (Zv rfl rfl rfl (j / 64) rfl (by rw [hwn]; exact hi) rfl) rfl rfl ?_
   refine Zi (Z1L rfl rfl (by rw [hwn]; exact hi) (by rw [hel]; rfl)) rfl rfl ?_
   (first|refine st ?_|(apply B<;>intro hb<;>try cases hb))
   refine Zi (Z2r rfl hr) rfl rfl ?_
   refine Zi (ZcX rfl rfl (by omega) (v:=((2 ^ (j % 64):Nat):Int)) (by
    rw [show min (((j % 64:Nat):Int)).toNat IntKind.u64.bits=j % 64 by simp [IntKind.bits]; omega]
    have:2 ^ (j % 64)<2 ^ 64:=Nat.pow_lt_pow_right (by omega) hm64
    rw [Int.one_mul,show (2:Int) ^ (j % 64)=((2 ^ (j % 64):Nat):Int) by simp]
    exact IntWalk.u64_in _ ⟨Int.natCast_nonneg _,Int.ofNat_le.2 (show _≤18446744073709551615 by omega)⟩)) rfl rfl ?_
   refine Zi (Z2r rfl (bits_or_u64_nat _ _ (hw.getD _) (show 2 ^ (j % 64)<2 ^ 64 from Nat.pow_lt_pow_right (by omega) hm64))) rfl rfl ?_
   refine Zi (Zv rfl rfl rfl (j / 64) rfl (by rw [hwn]; exact hi) rfl) rfl rfl ?_
   refine Zi (Z2s rfl rfl rfl rfl rfl (by rw [hwn]; exact hi) (Nat.le_refl _)) rfl rfl ?_
   rw [hel,show setAt [PV.val (Value.int .u64 (ws.getD (j / 64) 0:Nat))] 0 (PV.val (Value.int .u64 ((ws.getD (j / 64) 0 ||| 2 ^ (j % 64):Nat):Int))).cells = [.val (.int .u64 ((ws.getD (j / 64) 0 ||| 2 ^ (j % 64):Nat):Int))] from rfl]
   simp only
   rw [Z8m,← hv]
   generalize ws.set (j / 64) v=w2 at *
   iterate 4 (first|refine st ?_|(apply B<;>intro hb<;>try cases hb))
   refine Zc (Zo (k:=40) rfl rfl (Z8 w2)) ?_
   refine go ?_
   refine Z6 rfl (Z3a w2) ?_
   exact hset
theorem Z2D {N:Nat} (h:N<18446744073709551616):(digs N).length≤1:=by
 by_cases h0:N=0
 · rw [h0,ZF]; simp
 · rw [Z3w h0,Nat.div_eq_of_lt h,ZF]; simp
end Go.Proofs.YtcgaocnjebhimaaGreatDoor
namespace Go.Proofs.YtcgaocnjebhimaaGreatDoor
open Go.RowKit
section
variable {P:Program} {C:Ctx} {Fr:Nat→Prop} {e:Env} {h:Heap} {n:Nat} {F:Froz} {φ:Locs} {a:Act} {w:World} {K:Nat→Env→Heap→Prop} {os:List AOper} {d:Option Nat} {Q:Exit→Nat→Env→Heap→Prop}
theorem PSpec.frame {f:FuncId} {b:Bx} {rest:List PV} {R:PV→Bx→Prop} (hs:PSpec P f b rest R) (hpb:pureLL b.elems) (hpr:pureL rest) {id:Nat} (hb:h id=some b) :
 ISpec P f n (.ptr id 0 0 :: rest) h fun n' r h'=>∃ b',n'=n∧h'=h.upd id b'∧r.pure∧pureLL b'.elems∧R r b':=by
 refine⟨hs.1,fun C e F φ a w vs s hv=>(hs.run hpb hpr hb s hv).mono ?_⟩
 rintro en w' ⟨v,r,b',F',rfl,⟨h1,h2,h3⟩,hvr,s'⟩
 exact⟨v,r,n,_,F',φ,rfl,⟨b',rfl,rfl,h1,h2,h3⟩,hvr,s'⟩
theorem ZY {f:Operand} {args:List Operand} {g:FuncId} {caps as0 rest:List PV} {b:Bx} {id:Nat} {R:PV→Bx→Prop} (hs:PSpec P g b rest R) (hf:ev e f=some (.fn g caps)) (ha:evs e args=some as0) (hr:as0++caps=.ptr id 0 0 :: rest) (hb:h id=some b) (hpb:pureLL b.elems) (hpr:pureL rest)
 (hk:∀ r b',r.pure→pureLL b'.elems→R r b'→opsK P os n (updO e d r) (h.upd id b') K):opsK P (⟨d,.call f args,none⟩ :: os) n e h K:=by
 refine Z1j hf ha (R:=fun n' r h'=>∃ b',n'=n∧h'=h.upd id b'∧r.pure∧pureLL b'.elems∧R r b') (by rw [hr]; exact hs.frame hpb hpr hb) ?_
 rintro n' r h' ⟨b',rfl,rfl,h1,h2,h3⟩
 exact hk r b' h1 h2 h3
theorem Z3Q {f nt:Nat} {ac:ACode} {rs:List ARes} (hf:FnOk P f nt ac rs) {b:Bx} {rest:List PV} {R:PV→Bx→Prop} (hn:rest.length+1≤nt) (hk:∀ C:Ctx,C.dom 1→aw P C ac (retI rs fun _ r h'=>∃ b',h' 0=some b'∧r.pure∧pureLL b'.elems∧R r b') 1 (argEnv (.ptr 0 0 0 :: rest)) (heapL [(0,b)])):PSpec P f b rest R :=
 Z1i hf hn hk
theorem ZgP {rs:List ARes} {R:PV→Bx→Prop} {r:PV} {b':Bx} (hr:retAll rs e h=some r) (hp:r.pure) (hb:h 0=some b') (hpb:pureLL b'.elems) (hR:R r b'):∃ r0 r,retAll rs e h=some r0∧LoP r0 r∧∃ b',h 0=some b'∧r.pure∧pureLL b'.elems∧R r b' :=
 ⟨r,r,hr,.inl rfl,b',hb,hp,hpb,hR⟩
inductive FrzP (id:Nat) (l:List (List PV)):PV→PV→Prop
 | pure (p:PV) (hp:p.pure):FrzP id l p p
 | own:FrzP id l (.own id) (.vec l false)
 | agg (xs ys:List PV) (hl:xs.length=ys.length) (h:∀ i,i<xs.length→FrzP id l (xs.getD i pvu) (ys.getD i pvu)):FrzP id l (.agg xs) (.agg ys)
 | tup (xs ys:List PV) (hl:xs.length=ys.length) (h:∀ i,i<xs.length→FrzP id l (xs.getD i pvu) (ys.getD i pvu)):FrzP id l (.tup xs) (.tup ys)
theorem FrzP.rep {F':Froz} {id:Nat} {l:List (List PV)} (hF:∀ x v,F x=some v→F' x=some v) (hown:∀ v,Rep F φ v (.own id)→Rep F' φ v (.vec l false)) {p q:PV} (hr:FrzP id l p q):∀ {v:Value},Rep F φ v p→Rep F' φ v q:=by
 induction hr with
 | pure p hp=>exact fun h=>h.mono hF fun _ _ h=>h
 | own=>exact fun h=>hown _ h
 | agg xs ys hl _ ih =>
   intro v h
   obtain⟨vs,rfl,h1,h2,h3⟩:=h.agg_inv
   exact .agg vs ys (by rw [h1,hl]) (fun i hi=>h2 i (by rw [hl]; exact hi)) fun i hi=>ih i (by rw [hl]; exact hi) (h3 i (by rw [hl]; exact hi))
 | tup xs ys hl _ ih =>
   intro v h
   obtain⟨vs,rfl,h1,h2⟩:=h.tup_inv
   exact .tup vs ys (by rw [h1,hl]) fun i hi=>ih i (by rw [hl]; exact hi) (h2 i (by rw [hl]; exact hi))
theorem Z5L {k id:Nat} {b:Bx} {p q:PV} (hk:e k=some p) (hb:h id=some b) (hp:pureLL b.elems) (hq:FrzP id b.elems p q):Sub C n e h n (e.upd k q) (h.del id):=by
 rintro a w ⟨F,φ,s⟩
 obtain⟨hlt,hr⟩:=s.env k _ hk
 obtain⟨loc',h1,h2,h3⟩:=s.live id b hb
 have s1:St' C (fun i=>n≤i) e (h.del id) F φ a w:=s.sub (fun _ _ h=>h) (fun _ _ hh=>(Heap.del_some hh).2)
 have hput:∀ {F':Froz},St' C (fun i=>n≤i) e (h.del id) F' φ a w→Rep F' φ (a.tmps.getD k undef) q→St C (fun i=>n≤i) (e.upd k q) (h.del id) a w:=fun {F'} s2 hrep=>by
  refine⟨F',φ,{ s2 with env:=fun j p hj=>?_ }⟩
  by_cases hjk:j=k
  · subst hjk; rw [Env.upd_same] at hj; cases hj; exact⟨hlt,hrep⟩
  · rw [Env.upd_ne _ _ hjk] at hj; exact s2.env j p hj
 rcases h2 with h2|h2
 case inr =>
  refine hput s1 (hq.rep (fun _ _ h=>h) (fun v hv=>?_) hr)
  obtain⟨loc,hl,hz,rfl⟩:=hv.own_inv
  obtain rfl:loc'=loc:=by rw [h1] at hl; simpa using hl
  have:=h2.pos
  omega
 by_cases hc0:loc'.cap=0
 · have hl0 : loc'.len = 0 := by have := h2.cap; omega
   have he0:b.elems = []:=List.eq_nil_of_length_eq_zero (by rw [h2.len,hl0])
   refine hput s1 (hq.rep (fun _ _ h=>h) (fun v hv=>?_) hr)
   obtain⟨loc,hl,hz,rfl⟩:=hv.own_inv
   obtain rfl:loc'=loc:=by rw [h1] at hl; simpa using hl
   rw [he0,hl0,hc0]
   cases hbs:loc'.base with
   | none=>exact .vecnil false
   | some x=>exact .vec (F:=F) (φ:=φ) x 0 0 [] false (fun _ _=>undef) (fun h=>absurd rfl h) (Nat.le_refl _) (by simp) (by simp) (by simp) (by simp) (by simp)
 · obtain ⟨ad, hbase, hs, cells, ct, hg, hroom, hrep⟩ := h2.room hc0
   have hhas:loc'.has ad.block:=⟨hc0,ad,hbase,rfl⟩
   have s2:=s1.frz hg (h3 _ hhas).2 (s.del_no hb h1 hhas) (h3 _ hhas).1
   have hx:=Z1g (h3 _ hhas).2 cells
   refine hput s2 (hq.rep hx (fun v hv=>?_) hr)
   obtain⟨loc,hl,hz,rfl⟩:=hv.own_inv
   obtain rfl:loc'=loc:=by rw [h1] at hl; simpa using hl
   rw [hbase,← h2.len]
   have hlt2:∀ i j,i<b.elems.length→j<loc'.esz→ad.off+(i*loc'.esz+j)<cells.size:=fun i j hi hj=>by
    have:=Z1s (n:=loc'.cap) (i:=i) (j:=j) (esz:=loc'.esz) (by have:=h2.cap; have:=h2.len;omega) hj
    omega
   refine .vec ad loc'.cap loc'.esz b.elems false (fun i j=>cells.getD (ad.off+(i*loc'.esz+j)) undef) (fun _=>hs) (by rw [h2.len]; exact h2.cap) (by simp) (by rw [h2.len]; exact h2.max) (fun i hi=>h2.el _ (by simp [List.getD_eq_getElem?_getD,hi])) (fun i j hi hj=>?_) (fun i j hi hj=>?_)
   · exact Z1o F _ _ (hlt2 i j hi hj) (hrep i j (by rw [← h2.len]; exact hi) hj).1
   · exact (hrep i j (by rw [← h2.len]; exact hi) hj).2.mono hx fun _ _ h=>h
theorem Z5M {id:Nat} {b:Bx} {i0 j0:Nat} (hb:h id=some b) (hi0:i0<b.elems.length) (hj0:j0<(b.elems.getD i0 []).length) (hcell:(b.elems.getD i0 []).getD j0 pvu=.vec [] true) (esz:Nat) (hp:0<esz) (hn:id<n) (hz:0<b.esz:=by exact Nat.le_of_ble_eq_true rfl) :
 Sub C n e h (n+1) e ((h.upd id ⟨b.esz,b.elems.set i0 ((b.elems.getD i0 []).set j0 (.own n))⟩).upd n ⟨esz,[]⟩):=by
 rintro a w ⟨F,φ,s⟩
 obtain⟨loc,h1,h2,h3⟩:=s.live id b hb
 have h2:=h2.cellsB hz
 have hcl:(b.elems.getD i0 []).length=loc.esz:=h2.el _ (by simp [List.getD_eq_getElem?_getD,hi0])
 have hc0:loc.cap≠0:=by have:=h2.cap; have:=h2.len; omega
 obtain⟨ad,hbase,hs,cells,ct,hg,hroom,hrep⟩:=h2.room hc0
 have hr0:=(hrep i0 j0 (by rw [← h2.len]; exact hi0) (by rw [← hcl]; exact hj0)).2
 rw [hcell] at hr0
 have hbase':∃ base,cells.getD (ad.off+(i0*loc.esz+j0)) undef=.slice base 0 0:=by
  rcases hr0.vec_inv with⟨_,h⟩|⟨x,cap,esz',cs,h,_,_,hf,_⟩
  · exact⟨none,h⟩
  · exact⟨some x,by rw [h,hf rfl]; rfl⟩
 obtain⟨base,hbs⟩:=hbase'
 have s':=s.allocNil (Nat.le_refl n) base esz hp
 have hfr:∀ i,n+1≤i→n≤i∧i≠n:=fun i hi=>⟨by omega,by omega⟩
 have s2:=s'.weaken hfr
 have hne:id≠n:=by omega
 have hx:=Z1n (s.free n (Nat.le_refl n)) ⟨base,esz,0,0⟩
 refine⟨F,_,{ s2 with live:=fun i bi hi=>?_,sep:=fun i j bi bj li lj k hi hj hli hlj hki hkj=>?_ }⟩
 · by_cases hin : i = n
   · subst hin
     rw [Heap.upd_same] at hi
     cases hi
     exact s2.live i _ (by rw [Heap.upd_same])
   · rw [Heap.upd_ne _ _ hin] at hi
     by_cases hid:i=id
     · subst hid
       rw [Heap.upd_same] at hi
       cases hi
       refine⟨loc,hx _ _ h1,?_,h3⟩
       refine .inl ⟨h2.esz,h2.pos,by simpa using h2.len,h2.cap,h2.max,fun c hc=>?_,fun _=>⟨ad,hbase,hs,cells,ct,hg,hroom,fun i' j' hi' hj'=>?_⟩⟩
       · rcases List.mem_or_eq_of_mem_set hc with h | h
         · exact h2.el c h
         · rw [h,List.length_set]; exact hcl
       · refine ⟨(hrep i' j' hi' hj').1, ?_⟩
         by_cases hii:i'=i0
         · subst hii
           have e1:(b.elems.set i' ((b.elems.getD i' []).set j0 (.own n))).getD i' []=(b.elems.getD i' []).set j0 (.own n):=by
            rw [List.getD_eq_getElem?_getD,List.getElem?_set]; simp [hi0]
           rw [e1]
           by_cases hjj:j'=j0
           · subst hjj
             have e2:((b.elems.getD i' []).set j' (.own n)).getD j' pvu=.own n:=by
              rw [List.getD_eq_getElem?_getD,List.getElem?_set,if_pos rfl,if_pos hj0]; rfl
             rw [e2,hbs]
             exact .own n ⟨base,esz,0,0⟩ (by simp [locUpd]) hp
           · have e2 : ((b.elems.getD i' []).set j0 (.own n)).getD j' pvu = (b.elems.getD i' []).getD j' pvu := by
              rw [List.getD_eq_getElem?_getD,List.getElem?_set,if_neg (Ne.symm hjj),← List.getD_eq_getElem?_getD]
             rw [e2]
             exact (hrep i' j' hi' hj').2.mono (fun _ _ h=>h) hx
         · have e1 : (b.elems.set i0 ((b.elems.getD i0 []).set j0 (.own n))).getD i' [] = b.elems.getD i' [] := by
            rw [List.getD_eq_getElem?_getD,List.getElem?_set,if_neg (Ne.symm hii),← List.getD_eq_getElem?_getD]
           rw [e1]
           exact (hrep i' j' hi' hj').2.mono (fun _ _ h=>h) hx
     · rw [Heap.upd_ne _ _ hid] at hi
       exact s2.live i bi (by rw [Heap.upd_ne _ _ hin]; exact hi)
 · have conv : ∀ {i : Nat} {bi : Bx}, ((h.upd id ⟨b.esz, b.elems.set i0 ((b.elems.getD i0 []).set j0 (.own n))⟩).upd n ⟨esz, []⟩) i = some bi → ∃ b0, (h.upd n ⟨esz, []⟩) i = some b0 := by
    intro i bi hi
    by_cases hin:i=n
    · subst hin; exact⟨_,Heap.upd_same _ _ _⟩
    · rw [Heap.upd_ne _ _ hin] at hi ⊢
      by_cases hid:i=id
      · subst hid; exact⟨b,hb⟩
      · rw [Heap.upd_ne _ _ hid] at hi; exact⟨bi,hi⟩
   obtain⟨b1,g1⟩:=conv hi
   obtain⟨b2,g2⟩:=conv hj
   exact s2.sep i j b1 b2 li lj k g1 g2 hli hlj hki hkj
theorem ZM {id:Nat} {b:Bx} {i0 j0:Nat} (hb:h id=some b) (hi0:i0<b.elems.length) (hj0:j0<(b.elems.getD i0 []).length) (hcell:(b.elems.getD i0 []).getD j0 pvu=.vec [] true) (esz:Nat) (hp:0<esz) (hn:id<n) (hz:0<b.esz:=by exact Nat.le_of_ble_eq_true rfl) :
 SubA n e h (n+1) e ((h.upd id ⟨b.esz,b.elems.set i0 ((b.elems.getD i0 []).set j0 (.own n))⟩).upd n ⟨esz,[]⟩):=fun _=>Z5M hb hi0 hj0 hcell esz hp hn hz
theorem Zd9 {X:Type} {m:Nat} (hdom:C.dom m) (A:X→Prop) (N:Nat) (L:X→List (Nat×PV)) (HL:X→List (Nat×Bx)) {x y:ACode} (hm:m≤N) (h1:aw P C x (thenQ (fun n e h=>∃ z,A z∧EnvR e N (L z)∧HeapR h N (HL z)) Q) n e h) (h2:∀ z,A z→aw P C y Q N (envL (L z)) (heapL (HL z))):aw P C (.seq x y) Q n e h :=
 Zl (Z5E h1 fun ex n e h hq=>by
  cases ex with
  | normal=>obtain⟨z,ha,he,hh⟩:=hq; exact Z7v hdom (L z) (HL z) hm he hh (h2 z ha)
  | _=>exact hq)
def mv (k k':Nat):Nat→Nat:=fun i=>bif Nat.beq i k then k' else i
theorem Z3d {k k' m:Nat} (h:m≤k):∀ i,i<m→mv k k' i=i:=by
 intro i hi
 have e1:Nat.beq i k=false:=Bool.eq_false_iff.2 fun hb=>by have:=Nat.eq_of_beq_eq_true hb; omega
 unfold mv
 rw [e1]; rfl
theorem Zw {ρ:Nat→Nat} {HL:List (Nat×Bx)} (h:((HL.map Prod.fst).all fun x=>(HL.map Prod.fst).all fun y => !(Nat.beq (ρ x) (ρ y))||Nat.beq x y)=true):InjOn ρ HL:=by
 intro q hq q' hq' he
 have h1:=List.all_eq_true.1 h q.1 (List.mem_map_of_mem hq)
 have h2:=List.all_eq_true.1 h1 q'.1 (List.mem_map_of_mem hq')
 rw [he] at h2
 have e1:Nat.beq (ρ q'.1) (ρ q'.1)=true:=Nat.beq_refl _
 rw [e1] at h2
 exact Nat.eq_of_beq_eq_true (by simpa using h2)
theorem Zr {HL:List (Nat×Bx)}:InjOn (fun i=>i) HL:=fun _ _ _ _ h=>h
def RenLs (ρ:Nat→Nat) (D:Nat→Prop):List PV→List PV→Prop
 | [],[]=>True
 | a :: r,b :: s=>RenP ρ D a b∧RenLs ρ D r s
 | _,_=>False
theorem RenLs.get {ρ:Nat→Nat} {D:Nat→Prop}:∀ {l m:List PV},RenLs ρ D l m→l.length=m.length∧∀ j,j<m.length→RenP ρ D (l.getD j pvu) (m.getD j pvu)
 | [],[],_=>⟨rfl,fun j hj=>by simp at hj⟩
 | a :: r, b :: s, h => by
   obtain⟨h1,h2⟩:=RenLs.get h.2
   refine⟨by simp [h1],fun j hj=>?_⟩
   cases j with
   | zero=>exact h.1
   | succ j=>exact h2 j (by simpa using hj)
 | [],_ :: _,h=>h.elim
 | _ :: _,[],h=>h.elim
theorem RenB.single {ρ:Nat→Nat} {D:Nat→Prop} {esz:Nat} {l0 l:List PV} (h:RenLs ρ D l0 l) (hl:l.length=esz):RenB ρ D ⟨esz,[l0]⟩ ⟨esz,[l]⟩:=by
 obtain⟨h1,h2⟩:=h.get
 by_cases hz:esz=0
 · subst hz
   obtain rfl:l = []:=List.eq_nil_of_length_eq_zero hl
   obtain rfl:l0 = []:=List.eq_nil_of_length_eq_zero h1
   exact .same _ ⟨trivial,trivial⟩
 refine .gen _ _ (Nat.pos_of_ne_zero hz) rfl rfl (fun i hi=>?_) fun i j hi hj=>?_
 · have : i = 0 := by simpa using hi
   subst this; exact h1
 · have : i = 0 := by simpa using hi
   subst this; exact h2 j (by rw [hl]; exact hj)
end
mutual
def PV.pureB:PV→Bool
 | .val _=>true
 | .agg l=>pureLB l
 | .tup l=>pureLB l
 | .vec l _=>pureLLB l
 | .cp l=>pureLB l
 | .ptr _ _ _=>false
 | .own _=>false
 | .view _ _ _=>false
 | .sl _ _ _ _ _=>false
 | .mp _=>false
 | .fn _ l=>pureLB l
def pureLB:List PV→Bool
 | []=>true
 | p :: l=>p.pureB&&pureLB l
def pureLLB:List (List PV)→Bool
 | []=>true
 | p :: l=>pureLB p&&pureLLB l
end
mutual
theorem Z2d:∀ {p:PV},p.pureB=true→p.pure
 | .val _,_=>trivial
 | .agg l,h=>by simp only [PV.inn]; exact Z13 (by simpa [PV.pureB] using h)
 | .tup l,h=>by simp only [PV.inn]; exact Z13 (by simpa [PV.pureB] using h)
 | .vec l _,h=>by simp only [PV.inn]; exact ZT (by simpa [PV.pureB] using h)
 | .cp l,h=>by simp only [PV.inn]; exact Z13 (by simpa [PV.pureB] using h)
 | .ptr _ _ _,h=>by simp [PV.pureB] at h
 | .own _,h=>by simp [PV.pureB] at h
 | .view _ _ _,h=>by simp [PV.pureB] at h
 | .sl _ _ _ _ _,h=>by simp [PV.pureB] at h
 | .mp _,h=>by simp [PV.pureB] at h
 | .fn _ l,h=>by simp only [PV.inn]; exact Z13 (by simpa [PV.pureB] using h)
theorem Z13:∀ {l:List PV},pureLB l=true→pureL l
 | [],_=>trivial
 | p :: l, h => by
   simp only [pureLB,Bool.and_eq_true] at h
   exact⟨Z2d h.1,Z13 h.2⟩
theorem ZT:∀ {l:List (List PV)},pureLLB l=true→pureLL l
 | [],_=>trivial
 | p :: l, h => by
   simp only [pureLLB,Bool.and_eq_true] at h
   exact⟨Z13 h.1,ZT h.2⟩
end
def KpF (F:Froz) (A B:World):Prop:=(∀ x v,F x=some v→A.cell? x=some v→B.cell? x=some v)∧B.os=A.os∧B.tape=A.tape∧B.output=A.output∧A.heap.size≤B.heap.size
theorem KpF.trans {F:Froz} {A B C:World} (h:KpF F A B) (k:KpF F B C):KpF F A C :=
 ⟨fun x v hx hv=>k.1 x v hx (h.1 x v hx hv),k.2.1.trans h.2.1,k.2.2.1.trans h.2.2.1,k.2.2.2.1.trans h.2.2.2.1,Nat.le_trans h.2.2.2.2 k.2.2.2.2⟩
theorem KpF.refl (F:Froz) (A:World):KpF F A A:=⟨fun _ _ _ h=>h,rfl,rfl,rfl,Nat.le_refl _⟩
theorem KpF.grown {F:Froz} {A B:World} {row:Option Nat} (hg:A.grownBy B row) (hrow:∀ r,row=some r→∃ o:Obj,A.heap[r]?=some o∧o.isCells=false):KpF F A B :=
 ⟨fun x v _ hv=>cell_kept hv hg hrow,hg.os,hg.tape,hg.output,hg.size⟩
def IterOk (P:Program) (g:FuncId) (caps:List PV) {α:Type} (encs:α→List Value) (S Sp:List α→Prop) (M:Nat):Prop :=
 HasBody P g∧∀ (F:Froz) (w:World) (lb:Array Value) (FN:Fence) (m:Nat),FenceOk FN m→Holds F w→RepL F noLoc lb caps→SeqStopsK FN m P g lb (fun x=>(encs x).toArray) (KpF F) S Sp M w
def Ctx.apart (h:Heap) (φ:Locs) (F:Froz) (w:World) (nt:Nat):Ctx:=⟨w,fun k=>∃ i b loc,h i=some b∧φ i=some loc∧loc.has k,F,nt,φ⟩
section
variable {P:Program} {C:Ctx} {Fr Fr':Nat→Prop} {e e':Env} {h h':Heap} {F F':Froz} {φ φ':Locs} {a a':Act} {w w':World}
theorem St'.owned (s:St' C Fr e h F φ a w) {nt k:Nat} (hk:(Ctx.apart h φ F w nt).G k):(C.w0.heap.size≤k ∨ C.G k)∧((∃ cells t,w.heap[k]?=some (.cells cells t (0,0))) ∨ ∃ es t,w.heap[k]?=some (.map es t)):=by
 obtain⟨i,b,loc,hi,hl,hc⟩:=hk
 obtain⟨loc',h1,h2,h3⟩:=s.live i b hi
 obtain rfl:loc'=loc:=by rw [h1] at hl; simpa using hl
 refine⟨(h3 k hc).1,?_⟩
 exact h2.there hc
theorem St'.enter (s:St' C Fr e h F φ a w):St' (Ctx.apart h φ F w C.nt) Fr e h F φ { a with defers := [] } w:=by
 refine { nt:=s.nt,glob:=s.glob,marks:=Marks.nil rfl,loc0:=fun i x hx=>hx,free:=s.free,env:=s.env,froz:=s.froz,ext:=fun _ _ h=>h,old:=fun _ _ _=>rfl,os:=rfl,tape:=rfl,output:=rfl,size:=Nat.le_refl _,kept:=fun _ _ _=>rfl,live:=fun id b hb=>?_,sep:=s.sep }
 obtain⟨loc,h1,h2,h3⟩:=s.live id b hb
 exact⟨loc,h1,h2,fun k hk=>⟨.inr ⟨id,b,loc,hb,h1,hk⟩,(h3 k hk).2⟩⟩
theorem St'.back (s:St' C Fr e h F φ a w) {nt:Nat} (s':St' (Ctx.apart h φ F w nt) Fr' e' h' F' φ' a' w'):St' C Fr' e h' F' φ' a w':=by
 have hne:∀ k,w.heap[k]?=some (.deferred (some []))→¬ (Ctx.apart h φ F w nt).G k:=fun k hk hg=>by
  rcases (s.owned hg).2 with⟨cells,t,hc⟩|⟨es,t,hc⟩
  · rw [hk] at hc; cases hc
  · rw [hk] at hc; cases hc
 refine { nt := s.nt, glob := s'.glob, marks := s.marks.mono fun k hk => ?_, loc0 := fun i x hx => s'.loc0 i x (s.loc0 i x hx), free := s'.free, env := fun k p hp => ⟨(s.env k p hp).1, (s.env k p hp).2.mono s'.ext s'.loc0⟩, froz := s'.froz, ext := fun x v hx => s'.ext _ _ (s.ext x v hx),
          old:=fun x hx hg=>?_,os:=s'.os.trans s.os,tape:=s'.tape.trans s.tape,output:=s'.output.trans s.output,size:=Nat.le_trans s.size s'.size,kept:=fun k hk hg=>?_,live:=fun i b hi=>?_,sep:=s'.sep }
 · exact (s'.kept k (Array.getElem?_eq_some_iff.1 hk).1 (hne k hk)).trans hk
 · have hx2 : x.block < w.heap.size := Nat.lt_of_lt_of_le hx s.size
   rw [s'.old x hx2 fun hg'=>(s.owned hg').1.elim (fun h1=>absurd hx (Nat.not_lt.2 h1)) hg]
   exact s.old x hx hg
 · have := s'.kept k (Nat.lt_of_lt_of_le hk s.size) fun hg' => (s.owned hg').1.elim (fun h1 => absurd hk (Nat.not_lt.2 h1)) hg
   exact this.trans (s.kept k hk hg)
 · obtain ⟨loc, h1, h2, h3⟩ := s'.live i b hi
   refine⟨loc,h1,h2,fun k hk=>⟨?_,(h3 k hk).2⟩⟩
   rcases (h3 k hk).1 with h4|h4
   · exact .inl (Nat.le_trans s.size h4)
   · exact (s.owned h4).1
theorem St'.apart_keeps (s:St' C Fr e h F φ a w) {nt:Nat} (s':St' (Ctx.apart h φ F w nt) Fr' e' h' F' φ' a' w') (hnm:∀ i b,h i=some b→0<b.esz) (B:Nat):KeepsFrom B w w':=by
 refine⟨s'.size,fun k o _ hk ho=>?_⟩
 refine (s'.kept k (Array.getElem?_eq_some_iff.1 hk).1 fun hg=>?_).trans hk
 obtain⟨i,b,loc,hi,hl,hc⟩:=hg
 obtain⟨loc',h1,h2,h3⟩:=s.live i b hi
 obtain rfl:loc'=loc:=by rw [h1] at hl; simpa using hl
 obtain⟨hc0,x,hx,rfl⟩:=hc
 obtain⟨y,hy,_,cells,t,hg,_⟩:=(h2.cellsB (hnm i b hi)).room hc0
 obtain rfl:y=x:=by rw [hy] at hx; simpa using hx
 rw [hk] at hg
 cases hg
 cases ho
theorem St'.apart_kp (s:St' C Fr e h F φ a w) {nt:Nat} (s':St' (Ctx.apart h φ F w nt) Fr' e' h' F' φ' a' w') {F0:Froz} (h0:∀ x v,F0 x=some v→F x=some v):KpF F0 w w' :=
 ⟨fun x v hx _=>(s'.froz x v (s'.ext x v (h0 x v hx))).2.2,s'.os,s'.tape,s'.output,s'.size⟩
theorem Zda {N nt:Nat} (hfr:∀ i,N≤i→φ i=none):(Ctx.apart h φ F w nt).dom N:=hfr
end
def envP (e:Env):List Nat→List Value→Env
 | p :: ps,v :: vs=>envP (e.upd p (.val v)) ps vs
 | _,_=>e
def actP (a:Act):List Nat→List Value→Act
 | p :: ps,v :: vs=>actP (a.put (some p) v) ps vs
 | _,_=>a
def envM (e:Env):List (Nat×Operand)→Option Env
 | []=>some e
 | (d, x) :: l => match ev e x with
   | some p=>envM (e.upd d p) l
   | none=>none
def actM (a:Act):List (Nat×Operand)→Act
 | []=>a
 | (d,x) :: l=>actM (a.put (some d) (a.eval x)) l
theorem Z5N:∀ (ps:List Nat) (vs:List Value) (a:Act),(actP a ps vs).defers=a.defers
 | [],_,_=>rfl
 | _ :: _,[],_=>rfl
 | p :: ps,v :: vs,a=>by simp only [actP]; exact Z5N ps vs _
theorem Z8n:∀ (ps:List Nat) (vs:List Value) (a:Act),(actP a ps vs).tmps=(ps.zip vs).foldl (fun t (p,v)=>t.setIfInBounds p v) a.tmps
 | [],_,_=>rfl
 | _ :: _,[],_=>rfl
 | p :: ps,v :: vs,a=>by simp only [actP,List.zip_cons_cons,List.foldl_cons]; exact Z8n ps vs _
section
variable {P:Program} {C:Ctx} {Fr Fr':Nat→Prop} {h h':Heap} {F F':Froz} {φ φ':Locs} {w w':World}
theorem St'.params:∀ {ps:List Nat} {vs:List Value} {e:Env} {a:Act},St' C Fr e h F φ a w→(∀ p∈ps,p<C.nt)→St' C Fr (envP e ps vs) h F φ (actP a ps vs) w
 | [],_,_,_,s,_=>s
 | _ :: _,[],_,_,s,_=>s
 | p :: ps,v :: vs,e,a,s,hps=>(s.put (hps p (by simp)) (.val v)).params fun q hq=>hps q (by simp [hq])
theorem St'.moves:∀ {l:List (Nat×Operand)} {e e':Env} {a:Act},St' C Fr e h F φ a w→(∀ q∈l,q.1<C.nt)→envM e l=some e'→St' C Fr e' h F φ (actM a l) w
 | [],e,e',a,s,_,he=>by cases he; exact s
 | (d, x) :: l, e, e', a, s, hl, he => by
   simp only [envM] at he
   split at he
   · rename_i p hp
     exact (s.put (hl _ (List.mem_cons_self ..)) (s.eval hp)).moves (fun q hq=>hl q (by simp [hq])) he
   · cases he
theorem ZaO {FN:Fence} {m:Nat} (hok:FenceOk FN m) {ops:Array Oper} {K:Act→World→Prop}:∀ {l:List Oper} {ms:List (Nat×Operand)} {a:Act},cMoves l=some ms→K (actM a ms) w→wpListIn FN m P ops (Exit.then K (fun _ _ _=>False)) l a w
 | [], ms, a, hc, hk => by
   obtain rfl : []=ms:=by simpa [cMoves] using hc
   exact hk
 | o :: r, ms, a, hc, hk => by
   have key:∀ (x:Operand) (d:Nat) (l':List (Nat×Operand)) (op:AOp),cOp P o=some op→execOp a.eval o=pure (.value (a.eval x))→o.guard=none→o.dst=some d→cMoves r=some l'→ms=(d,x) :: l'→wpListIn FN m P ops (Exit.then K (fun _ _ _=>False)) (o :: r) a w:=by
    intro x d l' op hop hex hg hd hr hms
    subst hms
    simp only [wpListIn]
    rw [if_pos (by simp [Region.wanted,hg])]
    refine⟨fun f _=>hok.fn f,?_⟩
    rw [Oper.semAt_eq FN.round a.eval o (Z1D hop),hex]
    have:=ZaO hok (ops:=ops) (a:=a.put (some d) (a.eval x)) hr hk
    rw [← hd] at this
    exact this
   simp only [cMoves] at hc
   split at hc
   · rename_i x d l' ho hg hd hr
     exact key x d l' (.mov x) (by simp [cOp,ho]) (by simp [execOp,ho]) hg hd hr (by simpa using hc.symm)
   · rename_i x d l' ho hg hd hr
     exact key x d l' (.mov x) (by simp [cOp,ho]) (by simp [execOp,ho]) hg hd hr (by simpa using hc.symm)
   · cases hc
theorem ZgQ {FN:Fence} {m:Nat} (hok:FenceOk FN m) {K:Act→World→Prop} {c:Code} {ms:List (Nat×Operand)} {a:Act} (hc:cAsg c=some ms) (hk:K (actM a ms) w):c.wpIn FN m P (Exit.then K (fun _ _ _=>False)) a w:=by
 unfold cAsg at hc
 split at hc
 · cases hc
   exact wpIn_skip hk
 · exact wpIn_region_list (ZaO hok hc hk)
 · cases hc
end
def roundQ {β:Type} (B:Exit→β→Prop) (m N:Nat) (L:List (Nat×PV)) (HL:β→List (Nat×Bx)):Exit→Nat→Env→Heap→Prop :=
 fun ex _ _ h'=>(ex=.normal ∨ ex=.ret ∨ ∃ id,ex=.exit id)∧∃ z ρ,B ex z∧(∀ i,i<m→ρ i=i)∧InjOn ρ (HL z)∧EnvQ ρ (envL L) N L∧HeapQ ρ h' N (HL z)
theorem Z3e {FN:Fence} {m:Nat} (h:FenceOk FN m) (l k:Nat):FenceOk (FN.inRound l) k:=by
 refine⟨h.fn,h.depth,fun P f args w R hc=>?_⟩
 obtain⟨h1,h2⟩:=h.calls P f args w R hc
 exact CallsIn.inRound l ⟨h1,fun cs _=>h2 cs fun d hd=>by rw [h.depth] at hd; cases hd⟩
theorem Z9t {FN:Fence} {m:Nat} (h:FenceOk FN m) (k:Nat):FenceOk FN k:=by
 refine⟨h.fn,h.depth,fun P f args w R hc=>?_⟩
 obtain⟨h1,h2⟩:=h.calls P f args w R hc
 exact⟨h1,fun cs _=>h2 cs fun d hd=>by rw [h.depth] at hd; cases hd⟩
theorem ZeL {FN:Fence} {m:Nat} (hd:FN.depth=none) (k:Nat) {P:Program} {c:Code} {Q:Exit→Act→World→Prop} {a:Act} {w:World} (h:c.wpIn FN k P Q a w):c.wpIn FN m P Q a w :=
 fun b kk cs hro hb _=>h b kk cs hro hb fun d hd'=>by rw [hd] at hd'; cases hd'
theorem World.grownBy_refl (W:World):W.grownBy W none:=⟨rfl,rfl,rfl,Nat.le_refl _,fun _ _ _=>rfl⟩
section
variable {P:Program} {C:Ctx} {e:Env} {h:Heap} {n:Nat} {Q:Exit→Nat→Env→Heap→Prop}
theorem Z2Q {α X:Type} {m0:Nat} (hdom:C.dom m0) {f:Operand} {ps:List Nat} {asg:List (Nat×Operand)} {body:ACode} {g:FuncId} {caps:List PV} {encs:α→List Value} {S Sp:List α→Prop} {M:Nat} (L:List (Nat×PV)) (HL:X→List (Nat×Bx))
 (hf:ev (envL L) f=some (.fn g caps)) (hp:pureL caps) (hit:IterOk P g caps encs S Sp M) (henc:∀ x,(encs x).length=ps.length)
 (B:Exit→List α→X→Prop) (N:Nat) (hm:m0≤N) (z0:X) (h0:B .normal [] z0) (hs0:Sub C n e h N (envL L) (heapL (HL z0))) (hnm:∀ z,∀ q∈HL z,0<q.2.esz)
 (e2:α→Env) (he2:∀ x,envM (envP (envL L) ps (encs x)) asg=some (e2 x))
 (round:∀ (C2:Ctx),C2.dom N→∀ pre x z,B .normal pre z→pre.length<M→aw P C2 body (roundQ (fun ex z'=>B ex (pre ++ [x]) z') m0 N L HL) N (e2 x) (heapL (HL z)))
 (done:∀ xs z,S xs→B .normal xs z→Q .normal N (envL L) (heapL (HL z)))
 (stop:∀ ex pre z,Sp pre→B ex pre z→(ex=.ret ∨ ∃ id,ex=.exit id)→Q ex N (envL L) (heapL (HL z))):aw P C (.range f ps asg body) Q n e h:=by
 intro hmx FN m hokl c hc a w hs
 obtain⟨hok,hlo⟩:=hokl
 have:∃ ps' cg cb,c=.rangeFunc f ps' cg cb∧ps'.toList=ps∧cAsg cg=some asg∧cCode P C.nt cb=some body∧(∀ p∈ps,p<C.nt)∧∀ q∈asg,q.1<C.nt:=by
  unfold cCode at hc
  split at hc<;>first
   | (simp at hc; done)
   | (split at hc
      · split at hc
        · rename_i hall
          simp only [Option.some.injEq,ACode.range.injEq] at hc
          obtain⟨rfl,rfl,rfl,rfl⟩:=hc
          simp only [Bool.and_eq_true,List.all_eq_true,decide_eq_true_eq] at hall
          exact⟨_,_,_,rfl,rfl,by assumption,by assumption,hall.1,hall.2⟩
        · simp at hc
      · simp at hc)
   | ((repeat' (split at hc))<;>simp at hc; done)
 obtain⟨ps',cg,cb,rfl,rfl,hcg,hcb,hpl,hal⟩:=this
 obtain⟨F1,φ1,s1⟩:=hs0 a w hs
 obtain⟨lb,hlb,hlz,hlr⟩:=(s1.eval hf).fn_inv
 have hrep:RepL F1 noLoc lb caps:=⟨hlz,fun i hi=>(hlr i hi).pure (ZH hp i)⟩
 obtain⟨⟨fn,hfn,hname,hbody⟩,hcon⟩:=hit
 have eg:∀ args w,(callFunc g args).run P w=.ok (.enter g args) w:=fun args w=>by
  have h1 : ¬ fn.name = "runtime.NumGoroutine" := by simpa using hname
  have h2:¬ fn.body=none:=fun h=>by rw [h] at hbody; simp at hbody
  simp [callFunc,hfn,h1,h2]
 have hcon':∀ k,SeqStopsK FN k P g lb (fun x=>(encs x).toArray) (KpF F1) S Sp M w:=fun k=>hcon F1 w lb FN k (Z9t hok k) ⟨s1.froz,s1.glob⟩ hrep
 have hmk:∀ d∈a.defers,∀ D,d={ target:=.collected D,args := #[] }→D<w.heap.size:=fun d hd D hD=>by
  obtain⟨D1,e1,_,e3⟩:=s1.marks.all d hd
  rw [e1] at hD
  have:D1=D:=by simpa using hD
  rw [← this]
  exact (Array.getElem?_eq_some_iff.1 e3).1
 let I:List α→World→Prop:=fun pre W=>∃ z,B .normal pre z∧∃ F φ,(∀ x v,F1 x=some v→F x=some v)∧St' C (fun i=>N≤i) (envL L) (heapL (HL z)) F φ a W
 let Ix:Code→List α→World→Prop:=fun c pre W=>∃ ex z,((c=.ret∧ex=.ret) ∨ ∃ id,c=.exit id∧ex=.exit id)∧B ex pre z∧∃ F φ,St' C (fun i=>N≤i) (envL L) (heapL (HL z)) F φ a W
 have hnm':∀ z i b,heapL (HL z) i=some b→0<b.esz:=fun z i b hb=>hnm z (i,b) (Z1p hb)
 have turn:∀ {W W':World} {row:Option Nat} {F:Froz} {φ:Locs} {hh:Heap},St' C (fun i=>N≤i) (envL L) hh F φ a W→(∀ i b,hh i=some b→0<b.esz)→W.grownBy W' row→(∀ r,row=some r→w.heap.size≤r∧∃ o:Obj,W.heap[r]?=some o∧o.isCells=false)→St' C (fun i=>N≤i) (envL L) hh F φ a W':=by
  intro W W' row F φ hh s hnm hg hr
  refine s.turned hg (fun r he=>⟨Nat.le_trans s1.size (hr r he).1,(hr r he).2⟩) (.inl hnm) rfl ⟨s.marks.nd,fun d hd=>?_⟩
  obtain⟨D,e1,e2,e3⟩:=s.marks.all d hd
  refine⟨D,e1,e2,?_⟩
  have:=hmk d hd D e1
  rw [hg.block D (Array.getElem?_eq_some_iff.1 e3).1 (fun he=>by have:=(hr D he.symm).1;omega)]
  exact e3
 have hI:OwnFrom w.heap.size I:=by
  rintro pre W W' row ⟨z,hB,F,φ,hF,s⟩ hg hr
  exact⟨z,hB,F,φ,hF,turn s (hnm' z) hg hr⟩
 have hIx:∀ c,OwnFrom w.heap.size (Ix c):=by
  rintro c pre W W' row ⟨ex,z,hc,hB,F,φ,s⟩ hg hr
  exact⟨ex,z,hc,hB,F,φ,turn s (hnm' z) hg hr⟩
 have hI0:I [] w:=⟨z0,h0,F1,φ1,fun _ _ h=>h,s1⟩
 have hact:∀ x,({ tmps:=(ps'.zip (encs x).toArray).foldl (fun t (p,v)=>t.setIfInBounds p v) a.tmps,defers := [] }:Act)=actP { a with defers := [] } ps'.toList (encs x):=fun x=>by
  have h1:=Z8n ps'.toList (encs x) { a with defers := [] }
  have h2:=Z5N ps'.toList (encs x) { a with defers := [] }
  have h3:(ps'.zip (encs x).toArray).foldl (fun t (p,v)=>t.setIfInBounds p v) a.tmps=(ps'.toList.zip (encs x)).foldl (fun t (p,v)=>t.setIfInBounds p v) a.tmps:=by
   rw [← Array.foldl_toList,Array.toList_zip]
  rw [h3]
  generalize actP { a with defers := [] } ps'.toList (encs x)=b at h1 h2
  obtain⟨bt,bd⟩:=b
  simp only at h1 h2
  rw [h1,h2]
 let Ax:α→Act→World→Prop:=fun x a' _=>a'=actM (actP { a with defers := [] } ps'.toList (encs x)) asg
 have hassign:∀ (k l:Nat) (pre:List α) (x:α) (W:World) (K:Act→World→Prop),I pre W→(∀ a' W',KeepsFrom w.heap.size W W'→KpF F1 W W'→I pre W'→Ax x a' W'→K a' W') →
  cg.wpIn (FN.inRound l) k P (Exit.then K (fun _ _ _=>False)) { tmps:=(ps'.zip (encs x).toArray).foldl (fun t (p,v)=>t.setIfInBounds p v) a.tmps,defers := [] } W:=by
  intro k l pre x W K hi hK
  rw [hact]
  exact ZgQ (Z3e hok l k) hcg (hK _ _ (KeepsFrom.refl _ _) (KpF.refl _ _) hi rfl)
 have hround:∀ (k l:Nat) (pre:List α) (x:α) (a':Act) (W:World),(∃ r,W.heap[l]?=some (.loop r))→I pre W→Ax x a' W→pre.length<M→cb.wpIn (FN.inRound l) k P (ownPostG w.heap.size (KpF F1) I Ix (pre ++ [x]) W) a' W:=by
  rintro k l pre x a' W ⟨r,hl⟩ ⟨z,hB,F,φ,hF,s⟩ rfl hlen
  have s3:=(s.enter.params (ps:=ps'.toList) (vs:=encs x) hpl).moves hal (he2 x)
  have hlo2:LoopOk (FN.inRound l) (Ctx.apart (heapL (HL z)) φ F W C.nt):=by
   intro l' hl'
   obtain rfl:l=l':=by simpa [Fence.inRound] using hl'
   refine⟨⟨r,hl⟩,fun hg=>?_⟩
   rcases (s.owned hg).2 with⟨cells,t,hc⟩|⟨es,t,hc⟩
   · rw [hl] at hc; cases hc
   · rw [hl] at hc; cases hc
  refine wpIn_mono (round _ (Zda s.free) pre x z hB hlen hmx (FN.inRound l) k ⟨Z3e hok l k,hlo2⟩ cb hcb _ W ⟨F,φ,s3⟩) ?_
  rintro ex a3 W3 ⟨n',e',h',⟨hex,z',ρ,hB',hρ,hinj,hEq,hHq⟩,F',φ',s4⟩
  obtain ⟨φ'',s5⟩ := (s.back s4).ren ρ hEq.mem hHq.mem hinj hdom hm hρ
  have hF':∀ x v,F1 x=some v→F' x=some v:=fun x v hx=>s4.ext x v (hF x v hx)
  rcases hex with rfl|rfl|⟨id,rfl⟩
  · exact ⟨s.apart_keeps s4 (hnm' z) _,s.apart_kp s4 hF,z',hB',F',φ'',hF',s5⟩
  · exact ⟨s.apart_keeps s4 (hnm' z) _,.ret,z',.inl ⟨rfl,rfl⟩,hB',F',φ'',s5⟩
  · exact ⟨s.apart_keeps s4 (hnm' z) _,.exit id,z',.inr ⟨id,rfl,rfl⟩,hB',F',φ'',s5⟩
 have hKb:∀ (W:World) (l:Nat) (o o':Obj),w.heap.size≤l→W.heap[l]?=some o→o.isCells=false→o.isWalk=false→KpF F1 W (W.putObj l o'):=fun W l o o' _ hl ho _=>KpF.grown (grownBy_putObj' W l o') fun r hr=>by cases hr; exact⟨o,hl,ho⟩
 have hps:∀ x,((encs x).toArray).size=ps'.size:=fun x=>by have:=henc x; simpa using this
 have hfin:∀ (a':Act) (c:Code) (ex:Exit) (W:World),((c=.ret∧ex=.ret) ∨ ∃ id,c=.exit id∧ex=.exit id)→PostA C Q ex a' W→∀ k,c.wpIn FN k P (PostA C Q) a' W:=by
  rintro a' c ex W (⟨rfl,rfl⟩|⟨id,rfl,rfl⟩) hq k
  · exact wpIn_ret hq
  · exact wpIn_exit hq
 refine ZeL hok.depth (m+1) ?_
 cases hro:FN.round with
 | none =>
   have hnew:∀ (D:Nat) {W:World} {F:Froz} {φ:Locs} {hh:Heap},w.heap.size≤D→W.heap[D]?=some (.deferred (some []))→St' C (fun i=>N≤i) (envL L) hh F φ a W→St' C (fun i=>N≤i) (envL L) hh F φ { a with defers:={ target:=.collected D,args := #[] } :: a.defers } W:=by
    intro D W F φ hh hD hd s
    refine s.turned (World.grownBy_refl W) (fun r hr=>by cases hr) (.inr fun r es t hr=>by cases hr) rfl ⟨List.nodup_cons.2 ⟨fun hin=>?_,s.marks.nd⟩,fun d hd'=>?_⟩
    · have:=hmk _ hin D rfl; omega
    · rcases List.mem_cons.1 hd' with rfl | hd'
      · exact⟨D,rfl,Nat.le_trans s1.size hD,hd⟩
      · exact s.marks.all d hd'
   refine wpIn_rangeFunc_ownH hro (by omega) hlb (hok.fn g) eg (hcon' _) (fun h k=>h.trans k) hKb (Below.refl _ _) hps I Ix hI hIx hI0 Ax (fun x a' _ W W' row h _ _=>h) (fun l=>hassign _ l) (fun l pre x a' W _ hl hi hx hlen=>hround _ l pre x a' W hl hi hx hlen) ?_ ?_
   · rintro D xs W hD hS ⟨z, hB, F, φ, _, s⟩ hd
     exact⟨N,_,_,done xs z hS hB,F,φ,hnew D hD hd s⟩
   · rintro D c pre W hD hS ⟨ex, z, hcx, hB, F, φ, s⟩ hd
     refine hfin _ c ex W hcx ⟨N,_,_,stop ex pre z hS hB ?_,F,φ,hnew D hD hd s⟩ _
     rcases hcx with⟨_,h⟩|⟨id,_,h⟩
     · exact .inl h
     · exact .inr ⟨id,h⟩
 | some l₀ =>
   obtain⟨⟨r₀,hr₀⟩,hg₀⟩:=hlo l₀ hro
   have hw₀:w.heap[l₀]?=some (.loop r₀):=(s1.kept l₀ (Array.getElem?_eq_some_iff.1 hr₀).1 hg₀).trans hr₀
   refine wpIn_rangeFunc_ownN hro hw₀ (by omega) hlb (hok.fn g) eg (hcon' _) (fun h k=>h.trans k) hKb (Below.refl _ _) hps I Ix hI hIx hI0 Ax (fun x a' _ W W' row h _ _=>h) (fun l=>hassign _ l) (fun l pre x a' W _ hl hi hx hlen=>hround _ l pre x a' W hl hi hx hlen) ?_ ?_
   · rintro xs W hS ⟨z, hB, F, φ, _, s⟩
     exact⟨N,_,_,done xs z hS hB,F,φ,s⟩
   · rintro c pre W hS ⟨ex, z, hcx, hB, F, φ, s⟩
     refine hfin _ c ex W hcx ⟨N,_,_,stop ex pre z hS hB ?_,F,φ,s⟩ _
     rcases hcx with⟨_,h⟩|⟨id,_,h⟩
     · exact .inl h
     · exact .inr ⟨id,h⟩
end
def qEval (op:AOp) (e:Env):Option PV :=
 match op with
 | .mov x=>ev e x
 | .bin op .num x y => match ev e x, ev e y with
   | some (.val a),some (.val b)=>(sbin op a b).map .val
   | _,_=>none
 | .una op x => match ev e x with
   | some p=>puna op p
   | none=>none
 | .faddr off x => match ev e x with
   | some (.cp l)=>some (.cp (l.drop off))
   | _=>none
 | .load false 1 x => match ev e x with
   | some (.cp (p :: _))=>some p
   | _=>none
 | .len x => match ev e x with
   | some (.vec l _)=>some (.val (.int .i64 l.length))
   | _=>none
 | .iaddr esz x i => match ev e x, ev e i with
   | some (.vec l _), some (.val (.int _ n)) => if 0 ≤ n ∧ n < (l.length : Int) then
      (if (l.getD n.toNat []).length=esz then some (.cp (l.getD n.toNat [])) else none) else none
   | _,_=>none
 | _=>none
section
variable {P:Program} {F:Froz} {a:Act} {w:World} {e:Env} {nt:Nat}
structure Slots (nt:Nat) (F:Froz) (e:Env) (a:Act):Prop where
 sz:a.tmps.size=nt
 nd:a.defers = []
 env:∀ k p,e k=some p→k<nt∧Rep F noLoc (a.tmps.getD k undef) p
theorem Slots.eval (s:Slots nt F e a) (hF:Holds F w) {x:Operand} {p:PV} (hx:ev e x=some p):Rep F noLoc (a.eval x) p:=by
 cases x with
 | tmp t=>exact (s.env t p (by simpa [ev] using hx)).2
 | const v => obtain rfl : pvOf v = p := by simpa [ev] using hx
              exact Z21 v
 | global g =>
   simp only [ev] at hx
   split at hx
   · cases hx; exact .val _
   · rename_i v l hg
     cases hx
     have hlen:(zpv (v :: l)).length=(v :: l).length:=by simp [zpv]
     refine .cp ⟨g,0,none⟩ (zpv (v :: l)) (fun j=>(v :: l).getD j undef) rfl (fun j hj=>?_) (fun j hj=>?_)
     · have hj' : j < (v :: l).length := by rw [← hlen]; exact hj
       have e1:(globs g)[j]?=some ((v :: l).getD j undef):=by rw [hg,List.getD_eq_getElem?_getD,List.getElem?_eq_getElem hj']; rfl
       have:=hF.2 g j _ e1
       rw [Nat.zero_add]
       exact this
     · have hj' : j < (v :: l).length := by rw [← hlen]; exact hj
       have e2:(zpv (v :: l)).getD j pvu=pvOf ((v :: l).getD j undef):=by
        simp only [zpv,List.getD_eq_getElem?_getD,List.getElem?_map,List.getElem?_eq_getElem hj',Option.map_some,Option.getD_some]
       rw [e2]
       exact Z21 _
 | func f => obtain rfl : _ = p := by simpa [ev] using hx
             exact .fn f #[] [] rfl (fun i hi=>absurd hi (by simp))
theorem Slots.put (s:Slots nt F e a) {d:Nat} {v:Value} {p:PV} (hd:d<nt) (hr:Rep F noLoc v p):Slots nt F (e.upd d p) (a.put (some d) v):=by
 refine⟨by simp [Act.put,s.sz],s.nd,fun k q hq=>?_⟩
 simp only [Act.put]
 rw [ZW _ _ _ _ (by rw [s.sz]; exact hd)]
 by_cases hk:k=d
 · subst hk
   rw [Env.upd_same] at hq
   obtain rfl:p=q:=by simpa using hq
   simpa using ⟨hd,hr⟩
 · rw [Env.upd_ne _ _ hk] at hq
   simpa [hk] using s.env k q hq
theorem Slots.putO (s:Slots nt F e a) {d:Option Nat} {v:Value} {p:PV} (hd:dstOk nt d=true) (hr:Rep F noLoc v p):Slots nt F (updO e d p) (a.put d v):=by
 cases d with
 | none=>exact s
 | some d=>exact s.put (by simpa [dstOk] using hd) hr
theorem Z9u {o:Oper} {op:AOp} (hc:cOp P o=some op) (s:Slots nt F e a) (hF:Holds F w) {p:PV} (hq:qEval op e=some p):∃ val,(execOp a.eval o).run P w=.ok (.value val) w∧Rep F noLoc val p:=by
 unfold cOp at hc
 split at hc
 case h_1 x ho =>
  cases hc
  exact⟨_,by simp [execOp,ho],s.eval hF hq⟩
 case h_2 x ho =>
  cases hc
  exact⟨_,by simp [execOp,ho],s.eval hF hq⟩
 case h_4 bop t x y yt ho =>
  have key:op=.bin bop .num x y→∃ val,(execOp a.eval o).run P w=.ok (.value val) w∧Rep F noLoc val p:=by
   rintro rfl
   simp only [qEval] at hq
   split at hq
   case h_2=>cases hq
   rename_i va vb hx hy
   have ha:=(s.eval hF hx).val_inv
   have hb:=(s.eval hF hy).val_inv
   cases hs:sbin bop va vb with
   | none=>simp [hs] at hq
   | some r =>
     obtain rfl:PV.val r=p:=by simpa [hs] using hq
     have hrun:=Zar (P:=P) (w:=w) (t:=t) (x:=x) (y:=y) hs
     have hex:execOp a.eval o=(do pure (.value (← (do eqGuard bop t x y (a.eval x) (a.eval y); binOp bop t (a.eval x) (a.eval y):Sem Value)))):=by simp only [execOp,ho]
     exact⟨r,by rw [hex,ha,hb,Sem.run_bind,hrun]; rfl,.val _⟩
  (repeat' (split at hc))<;>first|(cases hc; exact key rfl)|(cases hc; simp [qEval] at hq; done)|(cases hc; done)
 case h_5 uop t x ho =>
  cases hc
  simp only [qEval] at hq
  split at hq
  case h_2=>cases hq
  rename_i q hx
  obtain⟨val,hrun,hrep⟩:=Zas (P:=P) (w:=w) (s.eval hF hx) hq
  exact⟨val,by simp [execOp,ho,hrun],hrep⟩
 case h_11 t x ho =>
  have hex:execOp a.eval o=(do pure (.value (← Instr.loadAt t (a.eval x)))):=by simp [execOp,ho]
  cases hl:layOf P t with
  | none=>simp [hl] at hc
  | some l =>
    obtain rfl:AOp.load l.1 l.2 x=op:=by simpa [hl] using hc
    obtain⟨agg,size⟩:=l
    cases agg with
    | true=>simp [qEval] at hq
    | false =>
      obtain⟨rfl,_⟩:=Z29 hl
      simp only [qEval] at hq
      split at hq
      case h_2=>cases hq
      rename_i p' l hx
      cases hq
      obtain⟨ad,cs,hv,hs,hFc,hR⟩:=(s.eval hF hx).cp_inv
      have hcut:cutAt false 1 0 (p :: l)=some p:=by simp [cutAt]
      obtain⟨val,hr,hrep⟩:=Z48 (w:=w) hl hs hcut (fun j hj=>by
       obtain rfl:j=0:=by omega
       exact⟨cs 0,(hF.1 _ _ (hFc 0 (by simp))).2.2,(hF.1 _ _ (hFc 0 (by simp))).2.1,hR 0 (by simp)⟩)
      exact⟨val,by rw [hex]; simp [Instr.loadAt,hv,Instr.sureAddr,hr],hrep⟩
 case h_14 t x i ho =>
  have hex:execOp a.eval o=(do pure (.value (← Instr.fieldAt t (a.eval x) i))):=by simp [execOp,ho]
  split at hc
  case h_2=>simp at hc
  rename_i fs hu
  split at hc
  case h_2=>simp at hc
  rename_i f hf
  split at hc
  case h_2=>simp at hc
  rename_i inf hi
  split at hc
  case isFalse=>simp at hc
  rename_i hp
  cases hc
  simp only [qEval] at hq
  split at hq
  case h_2=>cases hq
  rename_i l hl
  cases hq
  have hne:inf.size≠0:=by omega
  have hfp:∀ ad:Addr,(fieldPlace ad f).run P w=.ok (ad.add f.offset) w:=fun ad=>by
   simp [fieldPlace,Zd hi,hne]
  obtain⟨ad,cs,hv,hs,hFc,hR⟩:=(s.eval hF hl).cp_inv
  refine⟨.pointer (some (ad.add f.offset)),by rw [hex]; simp [Instr.fieldAt,run_underlying hu,hf,hv,Instr.sureAddr,hfp],?_⟩
  rw [ZI _ _ hs]
  refine .cp _ _ (fun j=>cs (f.offset+j)) rfl (fun j hj=>?_) (fun j hj=>?_)
  · have : f.offset + j < l.length := by simp at hj; omega
    simpa [Nat.add_assoc] using hFc _ this
  · have : f.offset + j < l.length := by simp at hj; omega
    simpa [List.getD_eq_getElem?_getD] using hR _ this
 case h_16 t x i ho =>
  have hex:execOp a.eval o=(do pure (.value (← Instr.indexAt t (a.eval x) (a.eval i)))):=by simp [execOp,ho]
  split at hc
  · rename_i el hu
    have hel:P.elem t=el:=by simp [Program.elem,hu]
    have hu':P.underlying t=some (.slice (P.elem t)):=by rw [hel]; exact hu
    cases hi:P.info? el with
    | none=>simp [hi] at hc
    | some inf =>
      obtain rfl:AOp.iaddr inf.size x i=op:=by simpa [hi] using hc
      simp only [qEval] at hq
      split at hq
      case h_2=>cases hq
      rename_i l full k n hx hn
      split at hq
      case isFalse=>cases hq
      rename_i hb
      split at hq
      case isFalse=>cases hq
      rename_i hlen
      cases hq
      have hvn:=(s.eval hF hn).val_inv
      have hlt:n.toNat<l.length:=by omega
      rcases (s.eval hF hx).vec_inv with⟨rfl,_⟩|⟨ad,cap,esz,cs,hv,hs,hcap,_,_,he,hFc,hR⟩
      · simp at hlt
      have hesz:esz=inf.size:=by rw [← hlen]; exact (he _ hlt).symm
      subst hesz
      refine⟨.pointer (some (ad.add (n.toNat*inf.size))),by
       rw [hex,hv,hvn,Sem.run_bind,run_indexAt_slice w t ad l.length cap k n hu',if_pos hb,hel,Zd hi]; rfl,?_⟩
      rw [ZI _ _ (hs (by rintro rfl; simp at hlt))]
      refine .cp _ _ (fun j=>cs n.toNat j) rfl (fun j hj=>?_) (fun j hj=>?_)
      · have := hFc n.toNat j hlt (by omega)
        simpa [Nat.add_assoc] using this
      · exact hR n.toNat j hlt (by omega)
  · simp only [Option.map_eq_some_iff] at hc
    obtain⟨_,_,rfl⟩:=hc
    simp [qEval] at hq
  · cases hc
 case h_25 c ho =>
  split at hc
  · cases hc; simp [qEval] at hq
  · rename_i hcal
    split at hc
    case h_2=>simp at hc
    rename_i t x ht hx
    have ha:c.args = #[x]:=list1 hx
    have hat:c.argTypes = #[t]:=list1 ht
    have hex:execOp a.eval o=(do pure (.value (← Builtin.len_ #[t] o.type #[a.eval x]))):=by simp [execOp,ho,resolve,hcal,invoke,builtin,ha,hat]
    split at hc
    · rename_i el hu
      cases hc
      simp only [qEval] at hq
      split at hq
      case h_2=>cases hq
      rename_i l full hxl
      cases hq
      rcases (s.eval hF hxl).vec_inv with⟨rfl,hv⟩|⟨ad,cap,esz,cs,hv,_⟩
      · exact⟨.int .i64 0,by rw [hex]; simp [Builtin.len_,run_underlying hu,hv,goInt],.val _⟩
      · exact⟨.int .i64 l.length,by rw [hex]; simp [Builtin.len_,run_underlying hu,hv,goInt],.val _⟩
    all_goals ((repeat' (split at hc))<;>first
    | (cases hc; done)
    | (cases hc; simp [qEval] at hq; done)
    | (simp at hc; done)
    | (simp only [Option.map_eq_some_iff] at hc; obtain⟨_,_,rfl⟩:=hc; simp [qEval] at hq; done))
  all_goals ((repeat' (split at hc))<;>first
   | (cases hc; done)
   | (cases hc; simp [qEval] at hq; done)
   | (simp at hc; done)
   | (simp only [Option.map_eq_some_iff] at hc; obtain⟨_,_,rfl⟩:=hc; simp [qEval] at hq; done))
 all_goals ((repeat' (split at hc))<;>first
  | (cases hc; done)
  | (cases hc; simp [qEval] at hq; done)
  | (simp at hc; done)
  | (simp only [Option.map_eq_some_iff] at hc; obtain⟨_,_,rfl⟩:=hc; simp [qEval] at hq; done))
end
structure JC (α:Type) where
 FN:Fence
 m:Nat
 nt:Nat
 F:Froz
 B:Nat
 K:Bool→List α→World→Prop
 l:Nat
 N:Nat
 encs:α→List Value
 Sp:List α→Prop
structure JC.Ok {α:Type} (Y:JC α) (P:Program):Prop where
 fence:FenceOk Y.FN Y.m
 round:Y.FN.round=none
 grow:∀ b pre W W',Y.K b pre W→W.grownBy W' none→Y.K b pre W'
 yield:∀ pre x W,Y.K true pre W→pre.length<Y.N→YieldAt Y.FN (Y.m-1) P Y.l (Y.encs x).toArray W fun e W' =>
  (e=.returned (.bool true)∧Y.K true (pre ++ [x]) W'∧KpF Y.F W W') ∨ (e=.returned (.bool false)∧Y.K false (pre ++ [x]) W')
section
variable {α:Type} {P:Program} {Y:JC α}
def JSt (Y:JC α) (b:Bool) (pre:List α) (e:Env) (a:Act) (w:World):Prop:=Slots Y.nt Y.F e a∧Holds Y.F w∧Y.K b pre w
def PostJ (Y:JC α) (Q:Exit→List α→Env→Prop) (x:Exit) (a:Act) (w:World):Prop:=(∃ pre e,Q x pre e∧JSt Y true pre e a w) ∨ (x=.ret∧∃ pre,Y.Sp pre∧Y.K false pre w∧a.defers = [])
def jw (P:Program) (Y:JC α) (ac:ACode) (Q:Exit→List α→Env→Prop) (pre:List α) (e:Env):Prop :=
 Y.Ok P→∀ c,cCode P Y.nt c=some ac→∀ a w,JSt Y true pre e a w→c.wpIn Y.FN Y.m P (PostJ Y Q) a w
def jthen (next:List α→Env→Prop) (Q:Exit→List α→Env→Prop):Exit→List α→Env→Prop
 | .normal=>next
 | x=>Q x
def jblock (id:Nat) (Q:Exit→List α→Env→Prop):Exit→List α→Env→Prop
 | .exit id'=>bif Nat.beq id' id then Q .normal else Q (.exit id')
 | x=>Q x
variable {Q:Exit→List α→Env→Prop} {pre:List α} {e:Env}
theorem Z3R (hk:Q .normal pre e):jw P Y .skip Q pre e:=by
 intro hY c hc a w hs
 have:c=.skip:=by
  unfold cCode at hc
  split at hc<;>first|rfl|(simp at hc; done)|((repeat' (split at hc))<;>simp at hc)
 subst this
 exact wpIn_skip (.inl ⟨pre,e,hk,hs⟩)
theorem Z4O {id:Nat} (hk:Q (.exit id) pre e):jw P Y (.exit id) Q pre e:=by
 intro hY c hc a w hs
 have:c=.exit id:=by
  unfold cCode at hc
  split at hc<;>first|(simp at hc; subst hc; rfl)|(simp at hc; done)|((repeat' (split at hc))<;>simp at hc)
 subst this
 exact wpIn_exit (.inl ⟨pre,e,hk,hs⟩)
theorem Z6N (hk:Q .ret pre e):jw P Y .ret Q pre e:=by
 intro hY c hc a w hs
 have:c=.ret:=by
  unfold cCode at hc
  split at hc<;>first|rfl|(simp at hc; done)|((repeat' (split at hc))<;>simp at hc)
 subst this
 exact wpIn_ret (.inl ⟨pre,e,hk,hs⟩)
theorem Z4k {x y:ACode} (hk:jw P Y x (jthen (jw P Y y Q) Q) pre e):jw P Y (.seq x y) Q pre e:=by
 intro hY c hc a w hs
 have:∃ c1 c2,c=.seq c1 c2∧cCode P Y.nt c1=some x∧cCode P Y.nt c2=some y:=by
  unfold cCode at hc
  split at hc<;>first
   | (split at hc<;>first|(simp at hc; obtain⟨rfl,rfl⟩:=hc; exact⟨_,_,rfl,by assumption,by assumption⟩)|(simp at hc; done)|((repeat' (split at hc))<;>simp at hc; done))
   | (simp at hc; done)
 obtain⟨c1,c2,rfl,h1,h2⟩:=this
 refine wpIn_seq (wpIn_mono (hk hY c1 h1 a w hs) fun x a w hp=>?_)
 rcases hp with⟨pre,e,hQ,hS⟩|⟨rfl,hS⟩
 · cases x with
   | normal=>exact hQ hY c2 h2 a w hS
   | _=>exact .inl ⟨pre,e,hQ,hS⟩
 · exact .inr ⟨rfl,hS⟩
theorem Z1P {c:Operand} {x y:ACode} {b:Bool} (hc:ev e c=some (.val (.bool b))) (ht:b=true→jw P Y x Q pre e) (hf:b=false→jw P Y y Q pre e):jw P Y (.cond c x y) Q pre e:=by
 intro hY cc hcc a w hs
 have:∃ c1 c2,cc=.cond c c1 c2∧cCode P Y.nt c1=some x∧cCode P Y.nt c2=some y:=by
  unfold cCode at hcc
  split at hcc<;>first
   | (split at hcc<;>first|(simp at hcc; obtain⟨rfl,rfl,rfl⟩:=hcc; exact⟨_,_,rfl,by assumption,by assumption⟩)|(simp at hcc; done)|((repeat' (split at hcc))<;>simp at hcc; done))
   | (simp at hcc; done)
 obtain⟨c1,c2,rfl,h1,h2⟩:=this
 refine wpIn_cond_split (hs.1.eval hs.2.1 hc).val_inv (fun hb=>ht hb hY c1 h1 a w hs) (fun hb=>hf hb hY c2 h2 a w hs)
theorem Z2R {id:Nat} {x:ACode} (hk:jw P Y x (jblock id Q) pre e):jw P Y (.block id x) Q pre e:=by
 intro hY c hc a w hs
 have:∃ c1,c=.block id c1∧cCode P Y.nt c1=some x:=by
  unfold cCode at hc
  split at hc<;>first
   | (split at hc<;>first|(simp at hc; obtain⟨rfl,rfl⟩:=hc; exact⟨_,rfl,by assumption⟩)|(simp at hc; done)|((repeat' (split at hc))<;>simp at hc; done))
   | (simp at hc; done)
 obtain⟨c1,rfl,h1⟩:=this
 refine wpIn_block (wpIn_mono (hk hY c1 h1 a w hs) fun x a w hp=>?_)
 rcases hp with⟨pre,e,hQ,hS⟩|⟨rfl,hS⟩
 · cases x with
   | exit id' =>
     simp only [jblock] at hQ
     simp only [Exit.inBlock]
     by_cases hid:id'=id
     · subst hid
       have hb:Nat.beq id' id'=true:=by simp
       rw [hb] at hQ
       rw [if_pos rfl]
       exact .inl ⟨pre,e,hQ,hS⟩
     · have hb : Nat.beq id' id = false := Bool.eq_false_iff.2 fun hb => hid (Nat.eq_of_beq_eq_true hb)
       rw [hb] at hQ
       rw [if_neg hid]
       exact .inl ⟨pre,e,hQ,hS⟩
   | _=>exact .inl ⟨pre,e,hQ,hS⟩
 · exact .inr ⟨rfl,hS⟩
theorem Zdb {L:List (Nat×PV)} {b:Bool} (he:EnvIn e L) {a:Act} {w:World} (hs:JSt Y b pre e a w):JSt Y b pre (envL L) a w:=⟨⟨hs.1.sz,hs.1.nd,fun k p hk=>hs.1.env k p (he.some hk)⟩,hs.2⟩
theorem Z9v {X:Type} (I:X→Prop) (μ:X→Nat) (R:X→List α) (L:X→List (Nat×PV)) {body:ACode} (x0:X) (h0:I x0) (hR:R x0=pre) (hL:EnvIn e (L x0))
 (round:∀ x,I x→jw P Y body (jthen (fun pre' e'=>∃ x',I x'∧μ x'<μ x∧R x'=pre'∧EnvIn e' (L x')) Q) (R x) (envL (L x))):jw P Y (.loop body) Q pre e:=by
 intro hY c hc a w hs
 have:∃ c1,c=.loop c1∧cCode P Y.nt c1=some body:=by
  unfold cCode at hc
  split at hc<;>first
   | (split at hc<;>first|(simp at hc; subst hc; exact⟨_,rfl,by assumption⟩)|(simp at hc; done)|((repeat' (split at hc))<;>simp at hc; done))
   | (simp at hc; done)
 obtain⟨c1,rfl,h1⟩:=this
 let p:Act→World→Nat→Prop:=fun a w k=>∃ x,I x∧μ x=k∧JSt Y true (R x) (envL (L x)) a w
 refine wpIn_loop (fun a w=>∃ k,p a w k) (fun a w=>least (p a w)) ⟨_,x0,h0,rfl,by rw [hR]; exact Zdb hL hs⟩ ?_
 rintro a w ⟨k,hk⟩
 obtain⟨⟨x,hx,hxk,hst⟩,_⟩:=Z3r hk
 refine wpIn_mono (round x hx hY c1 h1 a w hst) fun ex a' w' hp=>?_
 rcases hp with⟨pre',e',hQ,hS⟩|⟨rfl,hS⟩
 · cases ex with
   | normal =>
     obtain⟨x',hx',hlt,rfl,hE⟩:=hQ
     have hp':p a' w' (μ x'):=⟨x',hx',rfl,Zdb hE hS⟩
     refine⟨⟨_,hp'⟩,?_⟩
     have:=(Z3r hp').2
     omega
   | _=>exact .inl ⟨pre',e',hQ,hS⟩
 · exact .inr ⟨rfl,hS⟩
def jops (P:Program) (Y:JC α):List AOper→List α→Env→(List α→Env→Prop)→Prop
 | [],pre,e,K=>K pre e
 | o :: os, pre, e, K => o.guard = none ∧ ((∃ p, qEval o.op e = some p ∧ jops P Y os pre (updO e o.dst p) K) ∨
     (∃ f args g caps as0 v,o.op=.call f args∧ev e f=some (.fn g caps)∧evs e args=some as0∧pureL (as0++caps)∧Spec P g (as0++caps) (· = .val v)∧jops P Y os pre (updO e o.dst (.val v)) K))
theorem Z1M {os:List AOper} {d:Option Nat} {op:AOp} {p:PV} {K:List α→Env→Prop} (hq:qEval op e=some p) (hk:jops P Y os pre (updO e d p) K):jops P Y (⟨d,op,none⟩ :: os) pre e K:=⟨rfl,.inl ⟨p,hq,hk⟩⟩
theorem Zdc {os:List AOper} {d:Option Nat} {f:Operand} {args:List Operand} {g:FuncId} {caps as0 args':List PV} {v:Value} {K:List α→Env→Prop} (hs:Spec P g args' (· = .val v)) (hf:ev e f=some (.fn g caps)) (ha:evs e args=some as0) (hr:as0++caps=args') (hp:pureL args') (hk:jops P Y os pre (updO e d (.val v)) K):jops P Y (⟨d,.call f args,none⟩ :: os) pre e K:=by
 subst hr
 exact⟨rfl,.inr ⟨f,args,g,caps,as0,v,rfl,hf,ha,hp,hs,hk⟩⟩
theorem Z1F {K:List α→Env→Prop} (hk:K pre e):jops P Y [] pre e K:=hk
theorem Below.grownN {A B:World} (h:Below A.heap.size A B):A.grownBy B none:=⟨h.os,h.tape,h.output,h.size,fun j hj _=>h.block j hj⟩
theorem ZbO {b:Bool} {a:Act} {w:World} (hs:JSt Y b pre e a w) {f:Operand} {args:Array Operand} {g:Nat} {caps as0:List PV} (hf:ev e f=some (.fn g caps)) (has:evs e args.toList=some as0):∃ vs,a.eval f=.func (.func g) #[] vs∧RepL Y.F noLoc (args.map a.eval++vs) (as0++caps):=by
 let C:Ctx:=⟨w,fun _=>False,Y.F,Y.nt,fun _=>none⟩
 have s0:St' C (fun _=>True) e (fun _=>none) Y.F noLoc a w:=by
  refine { nt := hs.1.sz, glob := hs.2.1.2, marks := Marks.nil hs.1.nd, loc0 := fun i x hx => (by cases hx), free := fun _ _ => rfl, env := hs.1.env, froz := hs.2.1.1, ext := fun _ _ h => h, old := fun _ _ _ => rfl, os := rfl, tape := rfl, output := rfl, size := Nat.le_refl _, kept := fun _ _ _ => rfl,
           live:=fun id b hb=>(by cases hb),sep:=fun i j bi bj li lj k hi=>(by cases hi) }
 exact Z3q s0 hf has
theorem Z6O (hY:Y.Ok P) {ops:Array Oper} {K:List α→Env→Prop}:∀ {l:List Oper} {al:List AOper},cOpers P Y.nt ops l=some al→∀ {pre:List α} {e:Env} {a:Act} {w:World},JSt Y true pre e a w→jops P Y al pre e K →
 ∀ {QQ:Exit→Act→World→Prop},(∀ pre e a w,K pre e→JSt Y true pre e a w→QQ .normal a w)→wpListIn Y.FN Y.m P ops QQ l a w:=by
 intro l
 induction l with
 | nil =>
   intro al hc pre e a w hs hk QQ hQ
   obtain rfl : []=al:=by simpa [cOpers] using hc
   exact hQ pre e a w hk hs
 | cons o r ih =>
   intro al hc pre e a w hs hk QQ hQ
   simp only [cOpers] at hc
   split at hc
   case h_2=>simp at hc
   rename_i ao al' ho hl
   obtain rfl:ao :: al'=al:=by simpa using hc
   unfold cOper at ho
   split at ho
   case h_2=>simp at ho
   rename_i op g hop hg
   split at ho
   case isFalse=>simp at ho
   rename_i hdst
   cases ho
   simp only [jops] at hk
   obtain⟨hgn,hk⟩:=hk
   subst hgn
   have hgo:o.guard=none:=by
    unfold cGuard at hg
    split at hg
    · assumption
    · split at hg
      · split at hg
        · cases hg
        · cases hg
      · cases hg
   simp only [wpListIn]
   rw [if_pos (by simp [Region.wanted,hgo])]
   refine⟨fun f _=>hY.fence.fn f,?_⟩
   rw [Oper.semAt_eq Y.FN.round a.eval o (Z1D hop)]
   rcases hk with⟨p,hq,hk⟩|⟨f,args,g,caps,as0,v,hop',hf,has,hp,hsp,hk⟩
   · obtain ⟨val, hr, hrep⟩ := Z9u hop hs.1 hs.2.1 hq
     rw [hr]
     exact ih hl ⟨hs.1.putO hdst hrep,hs.2⟩ hk hQ
   · subst hop'
     obtain⟨⟨fn,hfn,hname,hbody⟩,hspec⟩:=hsp
     obtain⟨c,hoc,hcal,hargs⟩:=Z2L hop
     subst hargs
     obtain⟨vs,hvf,hrep⟩:=ZbO hs hf has
     have hrun:(execOp a.eval o).run P w=.ok (.enter g (c.args.map a.eval++vs)) w:=by
      have h1 : ¬ fn.name = "runtime.NumGoroutine" := by simpa using hname
      have h2:¬ fn.body=none:=fun h=>by rw [h] at hbody; simp at hbody
      simp [execOp,hoc,resolve,hcal,hvf,Deferred.ofValue,invoke,callFunc,hfn,h1,h2]
     rw [hrun]
     refine⟨fun hd=>by rw [hY.fence.depth] at hd; simp at hd,hY.fence.calls _ _ _ _ _ ((hspec Y.F w _ hs.2.1 hrep).mono ?_)⟩
     rintro en w' ⟨v',r',F',rfl,rfl,hvr,hbel,hF',hext,hold⟩
     obtain rfl:v'=v:=hvr.val_inv
     refine ih hl ⟨hs.1.putO hdst (.val _),⟨fun x u hx=>⟨(hs.2.1.1 x u hx).1,(hs.2.1.1 x u hx).2.1,(hF'.1 x u (hext x u hx)).2.2⟩,hs.2.1.2⟩,hY.grow _ _ _ _ hs.2.2 (Below.grownN hbel)⟩ hk hQ
theorem Z6P {al:List AOper} {c:Code} (h:cCode P Y.nt c=some (.region al)):∃ id ops,c=.region id ops false∧cOpers P Y.nt ops ops.toList=some al:=by
 unfold cCode at h
 split at h<;>first
  | (simp at h; done)
  | (split at h
     · split at h
       · simp at h; subst h; exact⟨_,_,rfl,by assumption⟩
       · split at h<;>simp at h
     · simp at h)
  | (split at h<;>simp at h; done)
  | ((repeat' (split at h))<;>simp at h; done)
theorem Z1X {al:List AOper} (hk:jops P Y al pre e (fun pre e=>Q .normal pre e)):jw P Y (.region al) Q pre e:=by
 intro hY c hc a w hs
 obtain⟨id,ops,rfl,h1⟩:=Z6P hc
 exact wpIn_region_list (Z6O hY h1 hs hk fun pre e a w hK hS=>.inl ⟨pre,e,hK,hS⟩)
theorem Z7y (ops:Array Oper) {l:List Oper}:∀ {al bl:List AOper},cOpers P Y.nt ops l=some (al++bl)→∃ l1 l2,l=l1++l2∧cOpers P Y.nt ops l1=some al∧cOpers P Y.nt ops l2=some bl:=by
 induction l with
 | nil =>
   intro al bl h
   simp [cOpers] at h
   obtain⟨rfl,rfl⟩:=h
   exact⟨[],[],rfl,rfl,rfl⟩
 | cons o r ih =>
   intro al bl h
   cases al with
   | nil=>exact⟨[],o :: r,rfl,rfl,h⟩
   | cons x al =>
     simp only [cOpers] at h
     split at h
     case h_2=>cases h
     rename_i a' l' h1 h2
     simp at h
     obtain⟨rfl,rfl⟩:=h
     obtain⟨l1,l2,rfl,g1,g2⟩:=ih h2
     exact⟨o :: l1,l2,rfl,by simp [cOpers,h1,g1],g2⟩
theorem ZP {FN:Fence} {m:Nat} {ops:Array Oper} {QQ:Exit→Act→World→Prop}:∀ {l1 l2:List Oper} {a:Act} {w:World},wpListIn FN m P ops (fun x a w=>match x with | .normal=>wpListIn FN m P ops QQ l2 a w|x=>QQ x a w) l1 a w→wpListIn FN m P ops QQ (l1++l2) a w
 | [],l2,a,w,h=>h
 | o :: r, l2, a, w, h => by
   simp only [wpListIn,List.cons_append] at h ⊢
   split
   · rename_i hw
     rw [if_pos hw] at h
     obtain⟨h1,h2⟩:=h
     refine⟨h1,?_⟩
     unfold Oper.uponIn at h2 ⊢
     split at h2
     · exact ZP h2
     · exact ZP h2
     · exact ZP h2
     · refine ⟨h2.1, h2.2.mono fun en w' hh => ?_⟩
       cases en with
       | returned v=>exact ZP hh
       | panicked chain=>exact hh
       | outgrown=>exact hh
     · exact⟨h2.1,h2.2.mono fun v w' hh=>ZP hh⟩
     · refine ⟨h2.1, h2.2.mono fun en w' hh => ?_⟩
       cases en with
       | returned v=>exact ZP hh
       | panicked chain=>exact hh
       | outgrown=>exact hh
     · exact h2
     · exact h2
   · rename_i hw
     rw [if_neg hw] at h
     exact⟨h.1,ZP h.2⟩
theorem ZeM (x:α) {al:List AOper} {d1 d2:Nat} {f:Operand} {args:List Operand} (hk:jops P Y al pre e (fun pre' e'=>pre'=pre∧ev e' f=some (.val (.func (.yield Y.l) #[] #[]))∧evs e' args=some ((Y.encs x).map .val)∧pre.length<Y.N∧Y.Sp (pre ++ [x])∧Q .normal (pre ++ [x]) ((e'.upd d1 (.val (.bool true))).upd d2 (.val (.bool false))))) :
 jw P Y (.seq (.region (al ++ [⟨some d1,.call f args,none⟩,⟨some d2,.una .not (.tmp d1),none⟩])) (.cond (.tmp d2) .ret .skip)) Q pre e:=by
 intro hY c hc a w hs
 have:∃ c1 c2,c=.seq c1 c2∧cCode P Y.nt c1=some (.region (al ++ [⟨some d1,.call f args,none⟩,⟨some d2,.una .not (.tmp d1),none⟩]))∧cCode P Y.nt c2=some (.cond (.tmp d2) .ret .skip):=by
  unfold cCode at hc
  split at hc<;>first
   | (split at hc<;>first|(simp at hc; obtain⟨rfl,rfl⟩:=hc; exact⟨_,_,rfl,by assumption,by assumption⟩)|(simp at hc; done)|((repeat' (split at hc))<;>simp at hc; done))
   | (simp at hc; done)
 obtain⟨c1,c2,rfl,h1,h2⟩:=this
 have:∃ k1 k2,c2=.cond (.tmp d2) k1 k2∧cCode P Y.nt k1=some .ret∧cCode P Y.nt k2=some .skip:=by
  unfold cCode at h2
  split at h2<;>first
   | (split at h2<;>first|(simp at h2; obtain⟨rfl,rfl,rfl⟩:=h2; exact⟨_,_,rfl,by assumption,by assumption⟩)|(simp at h2; done)|((repeat' (split at h2))<;>simp at h2; done))
   | (simp at h2; done)
 obtain⟨k1,k2,rfl,g1,g2⟩:=this
 have hk1:k1=.ret:=by
  unfold cCode at g1
  split at g1<;>first|rfl|(simp at g1; done)|((repeat' (split at g1))<;>simp at g1)
 have hk2:k2=.skip:=by
  unfold cCode at g2
  split at g2<;>first|rfl|(simp at g2; done)|((repeat' (split at g2))<;>simp at g2)
 subst hk1
 subst hk2
 obtain⟨id,ops,rfl,hops⟩:=Z6P h1
 obtain⟨l1,l2,hl,ho1,ho2⟩:=Z7y ops hops
 refine wpIn_seq (wpIn_region_list ?_)
 rw [hl]
 refine ZP (Z6O hY ho1 hs hk fun pre' e' a' w' hK hS=>?_)
 obtain⟨rfl,hf,has,hlen,hSp,hQ⟩:=hK
 cases l2 with
 | nil=>simp [cOpers] at ho2
 | cons o r =>
   simp only [cOpers] at ho2
   split at ho2
   case h_2=>cases ho2
   rename_i ao al' ho hl2
   simp at ho2
   obtain⟨rfl,rfl⟩:=ho2
   cases r with
   | nil=>simp [cOpers] at hl2
   | cons o2 r2 =>
     simp only [cOpers] at hl2
     split at hl2
     case h_2=>cases hl2
     rename_i ao2 al2 hoo2 hl3
     simp at hl2
     obtain⟨rfl,rfl⟩:=hl2
     have hr2:r2 = []:=by
      cases r2 with
      | nil=>rfl
      | cons x y=>simp only [cOpers] at hl3; split at hl3<;>simp at hl3
     subst hr2
     have dst:∀ {oo:Oper} {d:Nat} {op:AOp},cOper P Y.nt ops oo=some ⟨some d,op,none⟩→oo.dst=some d∧d<Y.nt∧oo.guard=none∧cOp P oo=some op:=by
      intro oo d op h
      unfold cOper at h
      split at h
      case h_2=>simp at h
      rename_i op' g hop hg
      split at h
      case isFalse=>simp at h
      rename_i hd
      simp at h
      obtain⟨hd1,rfl,rfl⟩:=h
      refine⟨hd1,by rw [hd1] at hd; simpa [dstOk] using hd,?_,hop⟩
      unfold cGuard at hg
      split at hg
      · assumption
      · split at hg
        · split at hg
          · cases hg
          · cases hg
        · cases hg
     obtain⟨hd1,hlt1,hgd1,hop1⟩:=dst ho
     obtain⟨hd2,hlt2,hgd2,hop2⟩:=dst hoo2
     obtain⟨cc,hoc,hcal,hargs⟩:=Z2L hop1
     have hun:∃ uop t,o2.op=.unOp uop t (.tmp d1)∧uop=.not:=by
      unfold cOp at hop2
      split at hop2<;>first
       | (rename_i uop t x' ho'; simp at hop2; obtain⟨rfl,rfl⟩:=hop2; exact⟨_,_,ho',rfl⟩)
       | (simp at hop2; done)
       | ((repeat' (split at hop2))<;>simp at hop2; done)
     obtain⟨_,ut,hu2,rfl⟩:=hun
     have hvf:=(hS.1.eval hS.2.1 hf).val_inv
     have hvs:cc.args.map a'.eval=(Y.encs x).toArray:=by
      have hev:∀ {xs:List Operand} {vs:List Value},evs e' xs=some (vs.map .val)→xs.map a'.eval=vs:=by
       intro xs
       induction xs with
       | nil => intro vs h; cases vs with
         | nil=>rfl
         | cons _ _=>simp [evs] at h
       | cons y ys ih =>
         intro vs h
         simp only [evs] at h
         split at h
         case h_2=>cases h
         rename_i p l hp hl
         cases vs with
         | nil=>simp at h
         | cons v vs =>
           simp at h
           obtain⟨rfl,rfl⟩:=h
           simp only [List.map_cons]
           rw [(hS.1.eval hS.2.1 hp).val_inv,ih hl]
      have h0:=hev (xs:=cc.args.toList) (by rw [hargs]; exact has)
      apply Array.ext'
      simpa using h0
     obtain⟨fn,tmps,assign,body,hyr,hR⟩:=hY.yield pre' x w' hS.2.2 hlen
     have hrun:(execOp a'.eval o).run P w'=.ok (.round Y.l fn tmps assign body) w':=by
      have:execOp a'.eval o=Instr.yield Y.l (cc.args.map a'.eval):=by
       simp [execOp,hoc,resolve,hcal,hvf,Deferred.ofValue,invoke]
      rw [this,hvs]
      exact hyr
     simp only [wpListIn]
     rw [if_pos (by simp [Region.wanted,hgd1])]
     refine⟨fun f _=>hY.fence.fn f,?_⟩
     rw [Oper.semAt_eq Y.FN.round a'.eval o (Z1D hop1),hrun]
     refine⟨fun hd=>by rw [hY.fence.depth] at hd; simp at hd,hR.mono ?_⟩
     have step:∀ (bb:Bool) (w3:World),(wpListIn Y.FN Y.m P ops (Exit.then ((Code.cond (.tmp d2) .ret .skip).wpIn Y.FN Y.m P (PostJ Y Q)) (PostJ Y Q)) [] ((a'.put (some d1) (.bool bb)).put (some d2) (.bool (!bb))) w3) →
      wpListIn Y.FN Y.m P ops (Exit.then ((Code.cond (.tmp d2) .ret .skip).wpIn Y.FN Y.m P (PostJ Y Q)) (PostJ Y Q)) [o2] (a'.put o.dst (.bool bb)) w3:=by
      intro bb w3 h3
      simp only [wpListIn]
      rw [if_pos (by simp [Region.wanted,hgd2])]
      refine⟨fun f _=>hY.fence.fn f,?_⟩
      have hv1:(a'.put o.dst (.bool bb)).eval (.tmp d1)=.bool bb:=by
       rw [hd1]
       show (a'.tmps.setIfInBounds d1 (.bool bb)).getD d1 undef=.bool bb
       rw [ZW _ _ _ _ (by rw [hS.1.sz]; exact hlt1)]
       simp
      have hex:(execOp (a'.put o.dst (.bool bb)).eval o2).run P w3=.ok (.value (.bool (!bb))) w3:=by
       simp only [execOp,hu2,hv1]
       cases bb<;>simp [Op.unary]
      rw [Oper.semAt_eq Y.FN.round _ o2 (Z1D hop2),hex]
      simp only [Oper.uponIn]
      rw [hd2]
      rw [hd1]
      exact h3
     have ev2:∀ bb:Bool,((a'.put (some d1) (.bool bb)).put (some d2) (.bool (!bb))).eval (.tmp d2)=.bool (!bb):=by
      intro bb
      show ((a'.tmps.setIfInBounds d1 (.bool bb)).setIfInBounds d2 (.bool (!bb))).getD d2 undef=.bool (!bb)
      rw [ZW _ _ _ _ (by simp [hS.1.sz]; exact hlt2)]
      simp
     rintro en w3 (⟨rfl,hK,hkp⟩|⟨rfl,hK⟩)
     · refine step true w3 (wpIn_cond_split (t := false) (ev2 true) (fun h => by cases h) fun _ => wpIn_skip (.inl ⟨_, _, hQ, ?_, ?_, hK⟩))
       · exact (hS.1.put hlt1 (.val _)).put hlt2 (.val _)
       · exact⟨fun y u hy=>⟨(hS.2.1.1 y u hy).1,(hS.2.1.1 y u hy).2.1,hkp.1 y u hy (hS.2.1.1 y u hy).2.2⟩,hS.2.1.2⟩
     · exact step false w3 (wpIn_cond_split (t:=true) (ev2 false) (fun _=>wpIn_ret (.inr ⟨rfl,_,hSp,hK,hS.1.nd⟩)) fun h=>by cases h)
theorem ZbP {f nt:Nat} {ac:ACode} (hf:FnOk P f nt ac []) {caps:List PV} {encs:α→List Value} {S Sp:List α→Prop} {M:Nat} (hn:caps.length+1≤nt)
 (hk:∀ Y:JC α,Y.N=M→Y.encs=encs→Y.Sp=Sp→Y.nt=nt→jw P Y ac (fun x pre _=>(x=.normal ∨ x=.ret)∧S pre) [] (argEnv (.val (.func (.yield Y.l) #[] #[]) :: caps))):IterOk P f caps encs S Sp M:=by
 obtain⟨hm,fn,c,hfn,hname,hb,rfl,hc,hr⟩:=hf
 refine⟨⟨fn,hfn,hname,by rw [hb]; rfl⟩,fun F w lb FN m hok hF hrep=>?_⟩
 intro l J Jx W hbel hJ hJx hyield h0
 have hres:fn.results = #[]:=by
  cases hl:fn.results.toList with
  | nil=>simpa using hl
  | cons r rs =>
    rw [hl] at hr
    simp only [cRess] at hr
    split at hr<;>simp at hr
 show CallsIn FN.plain m P f _ W _
 refine callsIn_of_wp hfn hb (hok.fn f) ?_ rfl
 let Y:JC α:=⟨FN.plain,m,fn.ntmps,F,W.heap.size,fun b pre W'=>if b=true then J pre W' else Jx pre W',l,M,encs,Sp⟩
 have hY:Y.Ok P:=by
  refine⟨⟨hok.fn,hok.depth,fun P f args w R h=>hok.calls P f args w R h⟩,rfl,?_,?_⟩
  · intro b pre W1 W2 hK hg
    cases b with
    | true=>exact hJ pre W1 W2 none hK hg (fun r hr=>by cases hr)
    | false=>exact hJx pre W1 W2 none hK hg (fun r hr=>by cases hr)
  · intro pre x W1 hK hlen
    obtain⟨fn',tmps,assign,body,h1,h2⟩:=hyield pre x W1 hK hlen
    refine⟨fn',tmps,assign,body,h1,?_⟩
    have h2':=h2.mono (R':=fun e W'=>(e=.returned (.bool true)∧Y.K true (pre ++ [x]) W'∧KpF Y.F W1 W') ∨ (e=.returned (.bool false)∧Y.K false (pre ++ [x]) W')) (fun en W' h=>h)
    exact h2'
 have hsz:lb.size=caps.length:=hrep.1
 have hFW:Holds F W:=⟨fun x v hx=>by
  obtain⟨g1,g2,g3⟩:=hF.1 x v hx
  exact⟨g1,g2,by rw [World.cell?_of_block (w:=w) (hbel.block x.block (block_lt_of_cell g3))]; exact g3⟩,hF.2⟩
 have hS:JSt Y true [] (argEnv (.val (.func (.yield l) #[] #[]) :: caps)) { tmps:=(#[.func (.yield l) #[] #[]]++lb)++Array.replicate (fn.ntmps-(#[Value.func (.yield l) #[] #[]]++lb).size) undef,defers := [] } W:=by
  refine⟨⟨by simp [Y]; omega,rfl,fun k p hp=>?_⟩,hFW,h0⟩
  have hk:k<caps.length+1:=by have:=(List.getElem?_eq_some_iff.1 hp).1; simpa using this
  refine⟨by simp only [Y]; omega,?_⟩
  cases k with
  | zero =>
    simp [argEnv] at hp
    subst hp
    have e0:((#[Value.func (.yield l) #[] #[]]++lb)++Array.replicate (fn.ntmps-(#[Value.func (.yield l) #[] #[]]++lb).size) undef).getD 0 undef=.func (.yield l) #[] #[]:=by
     simp only [Array.getD_eq_getD_getElem?]
     rw [Array.getElem?_append_left (by simp;omega),Array.getElem?_append_left (by simp)]
     rfl
    show Rep F noLoc (((#[Value.func (.yield l) #[] #[]]++lb)++Array.replicate (fn.ntmps-(#[Value.func (.yield l) #[] #[]]++lb).size) undef).getD 0 undef) _
    rw [e0]
    exact .val _
  | succ k =>
    have hk':k<caps.length:=by omega
    have e1:((#[Value.func (.yield l) #[] #[]]++lb)++Array.replicate (fn.ntmps-(#[Value.func (.yield l) #[] #[]]++lb).size) undef).getD (k+1) undef=lb.getD k undef:=by
     simp only [Array.getD_eq_getD_getElem?]
     rw [Array.getElem?_append_left (by simp;omega),Array.getElem?_append_right (by simp)]
     simp
    have e2:caps.getD k pvu=p:=by
     have hp':caps[k]?=some p:=by simpa [argEnv] using hp
     rw [List.getD_eq_getElem?_getD,hp']; rfl
    rw [e1,← e2]
    exact hrep.2 k hk'
 refine wpIn_mono (hk Y rfl rfl rfl rfl hY c hc _ W hS) fun x a' w' hp=>?_
 have hres':∀ tmps,(results fn tmps).run P w'=.ok (.tuple #[]) w':=fun tmps=>by simp [results,hres]
 rcases hp with⟨pre,e,⟨hx,hSp⟩,hS'⟩|⟨rfl,pre,hsp,hK,hd⟩
 · have fin : a'.defers = [] ∧ ∃ v, (results fn a'.tmps).run P w' = .ok v w' ∧ ((∃ v', Ending.returned v = Ending.returned v') ∧ ((∃ xs, S xs ∧ J xs w') ∨ ∃ pre, Sp pre ∧ Jx pre w')) :=
    ⟨hS'.1.nd,_,hres' _,⟨_,rfl⟩,.inl ⟨pre,hSp,hS'.2.2⟩⟩
   rcases hx with rfl|rfl
   · exact fin
   · exact fin
 · exact⟨hd,_,hres' _,⟨_,rfl⟩,.inr ⟨pre,hsp,hK⟩⟩
end
end Go.Proofs.YtcgaocnjebhimaaGreatDoor
namespace Go.Proofs.YtcgaocnjebhimaaGreatDoor
open Go.RowKit
attribute [local irreducible] aw opsK dK
theorem Z1G:setN 0=.agg [.vec [] false]:=by rw [setN,ZF]; rfl
theorem Z4l {N:Nat} (h:N<18446744073709551616) (h0:N≠0):digs N = [N]:=by
 rw [Z3w h0,Nat.mod_eq_of_lt h,Nat.div_eq_of_lt h,ZF]
theorem Z2S {N:Nat} (h:N<18446744073709551616) (h0:N≠0):setN N=.agg [.vec [[.val (.int .u64 (N:Int))]] false]:=by rw [setN,Z4l h h0]; rfl
theorem boolE {a b:Bool} (h:a=b):PV.val (.bool a)=PV.val (.bool b):=by rw [h]
theorem Z16 {N:Nat} (h:N<18446744073709551616):(N=0∧setN N=.agg [.vec [] false]) ∨ (N≠0∧setN N=.agg [.vec [[.val (.int .u64 (N:Int))]] false]):=by
 by_cases h0:N=0
 · subst h0; exact .inl ⟨rfl,Z1G⟩
 · exact .inr ⟨h0,Z2S h h0⟩
def minusN (a b:Nat):Nat:=a &&& (18446744073709551615-b)
theorem Zz {a b:Nat} (ha:a<18446744073709551616) (hb:b<18446744073709551616) (i:Nat):(minusN a b).testBit i=(a.testBit i && !b.testBit i):=by
 have h:=Nat.testBit_two_pow_sub_succ (n:=64) hb i
 have e:(2:Nat) ^ 64-(b+1)=18446744073709551615-b:=by omega
 rw [e] at h
 rw [minusN,Nat.testBit_and,h]
 by_cases hi:i<64
 · simp [hi]
 · have : a.testBit i = false := Nat.testBit_lt_two_pow (Nat.lt_of_lt_of_le ha (Nat.pow_le_pow_right (n := 2) (by omega) (show 64 ≤ i by omega)))
   simp [this]
theorem Z8o {a b:Nat} (ha:a<18446744073709551616):minusN a b<18446744073709551616:=Nat.lt_of_le_of_lt Nat.and_le_left ha
theorem Z2e (a b:Nat) (ha:a<18446744073709551616) (hb:b<18446744073709551616):bits .andNot .u64 (a:Int) (b:Int)=((minusN a b:Nat):Int):=by
 have hx:minusN a b<2 ^ 64:=Z8o ha
 have h1:(BitVec.ofInt 64 (a:Int)).toNat=a:=by
  rw [BitVec.ofInt_natCast,BitVec.toNat_ofNat]; exact Nat.mod_eq_of_lt (by omega)
 have h2:(~~~(BitVec.ofInt 64 (b:Int))).toNat=18446744073709551615-b:=by
  rw [BitVec.toNat_not,BitVec.ofInt_natCast,BitVec.toNat_ofNat,Nat.mod_eq_of_lt (by omega)]
 show IntKind.u64.wrap ((BitVec.ofInt 64 (a:Int) &&& ~~~(BitVec.ofInt 64 (b:Int))).toNat:Int)=_
 rw [BitVec.toNat_and,h1,h2,IntKind.wrap_u64]
 show ((minusN a b:Nat):Int) % 18446744073709551616=_
 omega
theorem Z9w {a b:Nat} (ha:a<18446744073709551616) (hb:b<18446744073709551616):minusN a b=0↔a ||| b=b:=by
 constructor
 · intro h
   refine Nat.eq_of_testBit_eq fun i=>?_
   have:=congrArg (fun z=>Nat.testBit z i) h
   simp only [Zz ha hb,Nat.zero_testBit] at this
   rw [Nat.testBit_or]
   cases h1:a.testBit i<;>cases h2:b.testBit i<;>simp_all
 · intro h
   refine Nat.eq_of_testBit_eq fun i=>?_
   have:=congrArg (fun z=>Nat.testBit z i) h
   simp only [Nat.testBit_or] at this
   rw [Zz ha hb,Nat.zero_testBit]
   cases h1:a.testBit i<;>cases h2:b.testBit i<;>simp_all
set_option maxHeartbeats 1000000 in
theorem Z6Q (N M:Nat) (hN:N<18446744073709551616) (hM:M<18446744073709551616):Spec Tryz.prog 65 [setN N,setN M] (· = .val (.bool (decide (N &&& M≠0)))):=by
 have hand:=bits_and_u64_nat N M hN hM
 rcases Z16 hN with⟨rfl,e1⟩|⟨h1,e1⟩<;>rcases Z16 hM with⟨rfl,e2⟩|⟨h2,e2⟩<;>rw [e1]<;>(try rw [e2])<;>clear e1 e2
 all_goals
  refine Z2 ok65 (Nat.le_of_ble_eq_true rfl) fun C hC=>?_
  refine Zl ?_
  refine Za ?_
  refine Z5 rfl rfl rfl ?_
  refine Z5 rfl rfl rfl ?_
  refine go ?_
  refine Z1v 1 ?_
  (refine go ?_;repeat' (apply B<;>intro hb<;>try cases hb))
 · exact Z6 rfl trivial (boolE (by simp))
 · exact Z6 rfl trivial (boolE (by simp))
 · exact Z6 rfl trivial (boolE (by simp))
 · refine Z6 rfl trivial (boolE ?_)
   rw [hand] at hb
   have h3:¬ ((N &&& M:Nat):Int)=0:=by simpa using hb
   have h4:N &&& M≠0:=by omega
   simp [h4]
 · refine Z6 rfl trivial (boolE ?_)
   rw [hand] at hb
   have h3:((N &&& M:Nat):Int)=0:=by simpa using hb
   have h4:N &&& M=0:=by omega
   simp [h4]
set_option maxHeartbeats 1000000 in
theorem Z1z (N M:Nat) (hN:N<18446744073709551616) (hM:M<18446744073709551616):Spec Tryz.prog 36 [setN N,setN M] (· = .val (.bool (decide (N ||| M=M)))):=by
 have hand:=Z2e N M hN hM
 have hz:=Z9w hN hM
 rcases Z16 hN with⟨rfl,e1⟩|⟨h1,e1⟩<;>rcases Z16 hM with⟨rfl,e2⟩|⟨h2,e2⟩<;>rw [e1]<;>(try rw [e2])<;>clear e1 e2
 all_goals
  refine Z2 ok36 (Nat.le_of_ble_eq_true rfl) fun C hC=>?_
  refine Zl ?_
  refine Za ?_
  refine Z5 rfl rfl rfl ?_
  refine Z5 rfl rfl rfl ?_
  refine go ?_
  refine Z1v 1 ?_
  refine go ?_
 · exact Z6 rfl trivial (boolE (by simp))
 · exact Z6 rfl trivial (boolE (by simp))
 · refine Z4 (Z1k [] 0) rfl rfl rfl ⟨⟨trivial, trivial⟩, trivial, trivial⟩ rfl ?_
   (refine go ?_;repeat' (apply B<;>intro hb<;>try cases hb))
   · exact Z6 rfl trivial (boolE (by simp;omega))
   · have h3 : bits .andNot .u64 (N : Int) ((0 : Nat) : Int) = 0 := by simpa using hb
     rw [hand] at h3
     exact absurd (hz.1 (by omega)) (by simp;omega)
 · refine Z4 (Z1k [M] 0) rfl rfl rfl ⟨⟨⟨⟨trivial, trivial⟩, trivial⟩, trivial⟩, trivial, trivial⟩ rfl ?_
   (refine go ?_;repeat' (apply B<;>intro hb<;>try cases hb))
   · have h3 : ¬ bits .andNot .u64 (N : Int) (M : Int) = 0 := by simpa using hb
     rw [hand] at h3
     have h4:¬ (N ||| M=M):=fun h=>h3 (by rw [hz.2 h]; rfl)
     exact Z6 rfl trivial (boolE (by simp [h4]))
   · have h3 : bits .andNot .u64 (N : Int) (M : Int) = 0 := by simpa using hb
     rw [hand] at h3
     have h4:N ||| M=M:=hz.1 (by omega)
     exact Z6 rfl trivial (boolE (by simp [h4]))
theorem Z4P (N:Nat) (hN:N<18446744073709551616):Spec Tryz.prog 56 [setN N] (· = .val (.bool (decide (N=0)))):=by
 rcases Z16 hN with⟨rfl,e1⟩|⟨h1,e1⟩<;>rw [e1]
 all_goals
  refine Z2 ok56 (Nat.le_of_ble_eq_true rfl) fun C hC=>?_
  refine Zl ?_
  refine Za ?_
  refine Z5 rfl rfl rfl ?_
  refine go ?_
 · exact Z6 rfl trivial (boolE (by simp))
 · exact Z6 rfl trivial (boolE (by simp [h1]))
set_option maxHeartbeats 1000000 in
theorem Z5O (N M:Nat) (hN:N<18446744073709551616) (hM:M<18446744073709551616):Spec Tryz.prog 143 [setN N,setN M] (· = .val (.bool (decide (N=M)))):=by
 rcases Z16 hN with⟨rfl,e1⟩|⟨h1,e1⟩<;>rcases Z16 hM with⟨rfl,e2⟩|⟨h2,e2⟩<;>rw [e1]<;>(try rw [e2])<;>clear e1 e2
 all_goals
  refine Z2 ok143 (Nat.le_of_ble_eq_true rfl) fun C hC=>?_
  refine Zl ?_
  refine Za ?_
  refine Z5 rfl rfl rfl ?_
  refine Z5 rfl rfl rfl ?_
  refine go ?_
 · refine Z1v 1 ?_
   refine go ?_
   exact Z6 rfl trivial (boolE (by simp))
 · exact Z6 rfl trivial (boolE (by simp;omega))
 · exact Z6 rfl trivial (boolE (by simp;omega))
 · refine Z1v 1 ?_
   (refine go ?_;repeat' (apply B<;>intro hb<;>try cases hb))
   · have h3 : ¬ (N : Int) = (M : Int) := by simpa using hb
     exact Z6 rfl trivial (boolE (by simp;omega))
   · have h3 : (N : Int) = (M : Int) := by simpa using hb
     exact Z6 rfl trivial (boolE (by simp;omega))
theorem Z1Z {N M:Nat} (hN:N<18446744073709551616) (hM:M<18446744073709551616):N ||| M<18446744073709551616:=Nat.or_lt_two_pow (n:=64) hN hM
theorem Zgb {N M:Nat} (h:N≠0 ∨ M≠0):N ||| M≠0:=fun h0=>by
 have h1:∀ i,(N ||| M).testBit i=false:=fun i=>by rw [h0]; simp
 rcases h with h|h
 · exact h (Nat.eq_of_testBit_eq fun i=>by have:=h1 i; rw [Nat.testBit_or] at this; simp at this; simp [this.1])
 · exact h (Nat.eq_of_testBit_eq fun i=>by have:=h1 i; rw [Nat.testBit_or] at this; simp at this; simp [this.2])
set_option maxHeartbeats 2000000 in
theorem Z1S (N M:Nat) (hN:N<18446744073709551616) (hM:M<18446744073709551616):Spec Tryz.prog 34 [setN N,setN M] (· = setN (N ||| M)):=by
 have hlt:=Z1Z hN hM
 rcases Z16 hN with⟨rfl,e1⟩|⟨h1,e1⟩<;>rcases Z16 hM with⟨rfl,e2⟩|⟨h2,e2⟩<;>rw [e1]<;>(try rw [e2])<;>clear e1 e2
 all_goals
  refine Z2 ok34 (Nat.le_of_ble_eq_true rfl) fun C hC=>?_
  refine Zl ?_
  refine Za ?_
  refine Z5 rfl rfl rfl ?_
  refine Z5 rfl rfl rfl ?_
  refine go ?_
  refine Z1v 1 ?_
  repeat' (first|refine Zc (Zo (k:=31) rfl rfl (ZT rfl)) ?_|(first|refine st ?_|(apply B<;>intro hb<;>try cases hb)))
 · exact Z6 rfl (Z2d rfl) Z1G.symm
 · refine Zy (Z1k [] 0) rfl rfl rfl (Z13 rfl) ?_
   refine go ?_
   refine Zy (Z1k [M] 0) rfl rfl rfl (Z13 rfl) ?_
   refine Zi (Z2r rfl (bits_or_u64_nat 0 M hN hM)) rfl rfl ?_
   repeat' (first|refine Zc (Zo (k:=31) rfl rfl (ZT rfl)) ?_|(first|refine st ?_|(apply B<;>intro hb<;>try cases hb)))
   exact Z6 rfl (Z2d rfl) (Z2S hlt (Zgb (.inr h2))).symm
 · refine Zy (Z1k [N] 0) rfl rfl rfl (Z13 rfl) ?_
   refine go ?_
   refine Zy (Z1k [] 0) rfl rfl rfl (Z13 rfl) ?_
   refine Zi (Z2r rfl (bits_or_u64_nat N 0 hN hM)) rfl rfl ?_
   repeat' (first|refine Zc (Zo (k:=31) rfl rfl (ZT rfl)) ?_|(first|refine st ?_|(apply B<;>intro hb<;>try cases hb)))
   exact Z6 rfl (Z2d rfl) (Z2S hlt (Zgb (.inl h1))).symm
 · refine Zy (Z1k [N] 0) rfl rfl rfl (Z13 rfl) ?_
   refine go ?_
   refine Zy (Z1k [M] 0) rfl rfl rfl (Z13 rfl) ?_
   refine Zi (Z2r rfl (bits_or_u64_nat N M hN hM)) rfl rfl ?_
   repeat' (first|refine Zc (Zo (k:=31) rfl rfl (ZT rfl)) ?_|(first|refine st ?_|(apply B<;>intro hb<;>try cases hb)))
   exact Z6 rfl (Z2d rfl) (Z2S hlt (Zgb (.inl h1))).symm
theorem Z53 {N i:Nat} (hN:N<18446744073709551616) (h:N.testBit i=true):i<64:=by
 rcases Nat.lt_or_ge i 64 with h' | h'
 · exact h'
 · have : N.testBit i = false := Nat.testBit_lt_two_pow (Nat.lt_of_lt_of_le hN (Nat.pow_le_pow_right (n := 2) (by omega) (show 64 ≤ i by omega)))
   rw [this] at h; cases h
theorem ZgR {N i:Nat} (h:N.testBit i=true):N≠0:=fun h0=>by rw [h0] at h; simp at h
theorem ZN {i:Nat} (h:i<64):2 ^ i<18446744073709551616:=by
 show 2 ^ i<2 ^ 64
 exact Nat.pow_lt_pow_right (by omega) h
theorem Z1w (N:Nat) (hN:N<18446744073709551616) (i:Int):Spec Tryz.prog 35 [setN N,.val (.int .i64 i)] (· = .val (.bool (decide (0≤i)&&N.testBit i.toNat))):=by
 refine (ZaN (digs N) (Z2C N) i).mono fun r hr=>?_
 rw [hr]
 refine boolE ?_
 have h:=Z2c (Z2C N) i.toNat
 rw [Z5n] at h
 rw [← h]
 by_cases h0:0≤i
 · by_cases h1 : i ≤ 4095
   · simp [h0,h1]
   · have : N.testBit i.toNat = false := by
      cases hb:N.testBit i.toNat with
      | false=>rfl
      | true=>have:=Z53 hN hb; omega
     simp [this]
 · simp [h0]
def withoutN (N:Nat) (i:Int):Nat:=if 0≤i∧N.testBit i.toNat=true then minusN N (2 ^ i.toNat) else N
theorem Z32 {N:Nat} (hN:N<18446744073709551616) (i j:Nat):(withoutN N i).testBit j=(N.testBit j&&decide (j≠i)):=by
 unfold withoutN
 split
 · rename_i h
   rw [Int.toNat_natCast] at h ⊢
   rw [Zz hN (ZN (Z53 hN h.2)),Nat.testBit_two_pow]
   by_cases hji:j=i
   · subst hji; simp
   · simp [hji,Ne.symm hji]
 · rename_i h
   have h':N.testBit i=false:=by
    rw [Int.toNat_natCast] at h
    cases hb:N.testBit i with
    | false=>rfl
    | true=>exact absurd ⟨by omega,hb⟩ h
   by_cases hji:j=i
   · subst hji; simp [h']
   · simp [hji]
set_option maxHeartbeats 2000000 in
theorem Z1H (N:Nat) (hN:N<18446744073709551616) (i:Int):Spec Tryz.prog 80 [setN N,.val (.int .i64 i)] (· = setN (withoutN N i)):=by
 refine Z2 ok80 (Nat.le_of_ble_eq_true rfl) fun C hC=>?_
 refine Zl ?_
 refine Za ?_
 refine Z5 rfl rfl rfl ?_
 refine go ?_
 refine Z4 (Z1w N hN i) rfl rfl rfl ⟨Z1 N,trivial,trivial⟩ rfl ?_
 by_cases h:0≤i∧N.testBit i.toNat=true
 case neg =>
  have hb:(decide (0≤i)&&N.testBit i.toNat)=false:=by
   cases hb:N.testBit i.toNat with
   | false=>simp
   | true=>simp only [hb,and_true] at h; simp [h]
  rw [hb]
  refine go ?_
  refine Z6 rfl (Z1 N) ?_
  rw [withoutN,if_neg h]; rfl
 obtain⟨h0,hbit⟩:=h
 obtain⟨j,rfl⟩:∃ j:Nat,i=j:=⟨i.toNat,by omega⟩
 rw [Int.toNat_natCast] at hbit
 have hj:=Z53 hN hbit
 have hne:=ZgR hbit
 have hp:=ZN hj
 have e0:withoutN N (j:Int)=minusN N (2 ^ j):=by rw [withoutN,if_pos ⟨h0,by rw [Int.toNat_natCast]; exact hbit⟩,Int.toNat_natCast]
 have hb:(decide (0≤(j:Int))&&N.testBit (j:Int).toNat)=true:=by rw [Int.toNat_natCast,hbit]; simp
 rw [hb,e0,Z2S hN hne]
 have hq:IntKind.i64.wrap ((j:Int).tdiv 64)=((0:Nat):Int):=by
  rw [IntWalk.i64_quo _ _ ⟨by omega,by omega,by omega⟩]; omega
 have hr:(j:Int).tmod 64=((j:Nat):Int):=by
  rw [Int.tmod_eq_emod_of_nonneg (by omega)]; omega
 iterate 5 (first|refine st ?_|(apply B<;>intro hb<;>try cases hb))
 (first|refine st ?_|(apply B<;>intro hb<;>try cases hb))
 refine Z2O rfl rfl rfl ?_
 iterate 2 (first|refine st ?_|(apply B<;>intro hb<;>try cases hb))
 refine ZD (Zs (k:=1) rfl rfl rfl (fun c hc=>by
  rw [List.mem_singleton.1 hc]; rfl) rfl (by show (0+1)*8≤_;omega)) rfl rfl ?_
 refine go ?_
 rw [hq]
 iterate 3 (first|refine st ?_|(apply B<;>intro hb<;>try cases hb))
 refine Zi (Z2r rfl hr) rfl rfl ?_
 refine Zi (ZcX rfl rfl (by omega) (v:=((2 ^ j:Nat):Int)) (by
  rw [show min ((j:Int)).toNat IntKind.u64.bits=j by simp [IntKind.bits]; omega]
  rw [Int.one_mul,show (2:Int) ^ j=((2 ^ j:Nat):Int) by simp]
  exact IntWalk.u64_in _ ⟨Int.natCast_nonneg _,Int.ofNat_le.2 (show _≤18446744073709551615 by omega)⟩)) rfl rfl ?_
 refine Zi (Z2r rfl (Z2e N (2 ^ j) hN hp)) rfl rfl ?_
 repeat' (first|refine Zc (Zo (k:=25) rfl rfl (ZT rfl)) ?_|(first|refine st ?_|(apply B<;>intro hb<;>try cases hb)))
 refine ZB rfl rfl (Z4i [minusN N (2 ^ j)]) (Z13 rfl) rfl fun r hr=>?_
 have hw:Words [minusN N (2 ^ j)]:=fun x hx=>by rw [List.mem_singleton.1 hx]; exact Z8o hN
 have e1:=hr.set hw
 have e2:ofW [minusN N (2 ^ j)]=minusN N (2 ^ j):=by simp [ofW]
 rw [e2] at e1
 subst e1
 refine go ?_
 exact Z6 rfl (Z1 _) rfl
def tz (x:Nat):Nat:=if h:x % 2=1 ∨ x=0 then 0 else tz (x / 2)+1
termination_by x
decreasing_by omega
theorem Z5o:∀ {x:Nat},x≠0→∃ m,x=2 ^ tz x*(2*m+1):=by
 intro x
 induction x using Nat.strongRecOn with
 | _ x ih =>
   intro h0
   by_cases h:x % 2=1 ∨ x=0
   · rw [tz, dif_pos h]
     exact⟨x / 2,by omega⟩
   · rw [tz, dif_neg h]
     obtain⟨m,hm⟩:=ih (x / 2) (by omega) (by omega)
     refine⟨m,?_⟩
     rw [Nat.pow_succ,Nat.mul_assoc,Nat.mul_comm 2,← Nat.mul_assoc,← hm]
     omega
theorem Z23 (k m i:Nat):(2 ^ k*(2*m+1)).testBit i=(decide (i=k)||(decide (k<i)&&m.testBit (i-k-1))):=by
 rw [Nat.testBit_two_pow_mul]
 by_cases h:k≤i
 · obtain ⟨j, rfl⟩ : ∃ j, i = k + j := ⟨i - k, by omega⟩
   rw [show k+j-k=j by omega]
   cases j with
   | zero=>simp [Nat.testBit_zero]
   | succ j =>
     rw [Nat.add_sub_cancel]
     have e:(2*m+1).testBit (j+1)=m.testBit j:=by rw [Nat.testBit_succ]; congr 1; omega
     simp [e]
 · have h1 : ¬ i = k := by omega
   have h2:¬ k<i:=by omega
   simp [h,h1,h2]
theorem Z54 (k m i:Nat):(2 ^ k*(2*m+1)-1).testBit i=(decide (i<k)||(decide (k<i)&&m.testBit (i-k-1))):=by
 have hp:0<2 ^ k:=Nat.pos_of_ne_zero (by simp)
 have e:2 ^ k*(2*m+1)-1=2 ^ k*(2*m)+(2 ^ k-1):=by rw [Nat.mul_add]; omega
 rw [e,Nat.testBit_two_pow_mul_add _ (by omega)]
 by_cases h:i<k
 · rw [if_pos h, Nat.testBit_two_pow_sub_one]
   simp [h]
 · rw [if_neg h]
   have h':¬ i<k:=h
   obtain⟨j,rfl⟩:∃ j,i=k+j:=⟨i-k,by omega⟩
   rw [show k+j-k=j by omega]
   cases j with
   | zero=>simp [Nat.testBit_zero]
   | succ j =>
     rw [Nat.add_sub_cancel]
     have e:(2*m).testBit (j+1)=m.testBit j:=by rw [Nat.testBit_succ]; congr 1; omega
     simp [e]
     omega
theorem Z8p {x:Nat} (h:x≠0):x.testBit (tz x)=true:=by
 obtain⟨m,hm⟩:=Z5o h
 generalize tz x=k at hm ⊢
 rw [hm,Z23]; simp
theorem ZgS {x i:Nat} (h:x≠0) (hi:x.testBit i=true):tz x≤i:=by
 obtain⟨m,hm⟩:=Z5o h
 generalize tz x=k at hm ⊢
 rw [hm,Z23] at hi
 simp at hi
 omega
theorem Z4m {x:Nat} (h:x≠0) (i:Nat):(x &&& (x-1)).testBit i=(x.testBit i&&decide (i≠tz x)):=by
 obtain⟨m,hm⟩:=Z5o h
 generalize tz x=k at hm ⊢
 rw [Nat.testBit_and,hm,Z23,Z54]
 by_cases h1:i=k
 · subst h1; simp
 · by_cases h2 : k < i
   · have h3 : ¬ i < k := by omega
     simp [h1,h2,h3]
   · simp [h1,h2]
theorem Zgc {x:Nat} (hx:x<18446744073709551616) (h:x≠0):x &&& (18446744073709551616-x)=2 ^ tz x:=by
 have hlt:=Z53 hx (Z8p h)
 obtain⟨m,hm⟩:=Z5o h
 generalize tz x=k at hm hlt ⊢
 refine Nat.eq_of_testBit_eq fun i=>?_
 have e:18446744073709551616-x=2 ^ 64-((x-1)+1):=by omega
 rw [Nat.testBit_and,e,Nat.testBit_two_pow_sub_succ (by omega),hm,Z23,Z54,Nat.testBit_two_pow]
 by_cases h1:i=k
 · subst h1; simp [hlt]
 · have h1' : ¬ k = i := fun h => h1 h.symm
   by_cases h2:k<i
   · simp [h1, h1', h2]
     intro a _ _
     exact a
   · simp [h1,h1',h2]
theorem ZeN:∀ k:Fin 64,(285870213051353865*2 ^ k.val % 18446744073709551616 / 288230376151711744)<64∧tzTab[285870213051353865*2 ^ k.val % 18446744073709551616 / 288230376151711744]?=some ((k.val:Nat):Int):=by decide
theorem Zhr {g j:Nat} {n:Nat} {e:Env} {h:Heap} {i:Operand} {k:IntKind} (hg:globs g=tzTab.map fun x=>.int .u8 x) (hi:ev e i=some (.val (.int k (j:Nat)))) (hj:j<64) :
 dEval (.iaddrA 64 1 (.global g) i) e h n=some (.cp ((zpv (tzTab.map fun x=>.int .u8 x)).drop (j*1)),h):=by
 have hev:ev e (.global g)=some (.cp (zpv (tzTab.map fun x=>.int .u8 x))):=by
  simp only [ev,hg]; rfl
 simp only [dEval,hev,hi]
 rw [if_pos ⟨by omega,by omega⟩,Int.toNat_natCast]
theorem Zhj {j k n:Nat} {e:Env} {h:Heap} {a:Operand} (ha:ev e a=some (.cp ((zpv (tzTab.map fun x=>.int .u8 x)).drop (j*1)))) (hj:tzTab[j]?=some ((k:Nat):Int)):dEval (.load false 1 a) e h n=some (.val (.int .u8 (k:Nat)),h):=by
 have hlt:j<tzTab.length:=(List.getElem?_eq_some_iff.1 hj).1
 have hl:(zpv (tzTab.map fun x=>.int .u8 x)).drop (j*1)=.val (.int .u8 (k:Nat)) :: (zpv (tzTab.map fun x=>.int .u8 x)).drop (j+1):=by
  rw [Nat.mul_one,List.drop_eq_getElem_cons (by simp [zpv]; exact hlt)]
  congr 1
  have:=(List.getElem?_eq_some_iff.1 hj).2
  simp [zpv,pvOf,this]
 simp only [dEval,ha,hl]
 simp [cutAt]
set_option maxHeartbeats 2000000 in
theorem Zdd (x:Nat) (hx:x<18446744073709551616) (h:x≠0):Spec Tryz.prog 83 [.val (.int .u64 (x:Int))] (· = .val (.int .i64 (tz x:Nat))):=by
 have hk:=Z53 hx (Z8p h)
 have hp:=ZN hk
 have hneg:IntKind.u64.wrap (0-(x:Int))=((18446744073709551616-x:Nat):Int):=by
  rw [IntKind.wrap_u64]; omega
 have hand:bits .and .u64 (x:Int) (IntKind.u64.wrap (0-(x:Int)))=((2 ^ tz x:Nat):Int):=by
  rw [hneg,bits_and_u64_nat _ _ hx (by omega),Zgc hx h]
 have hmul:IntKind.u64.wrap (((2 ^ tz x:Nat):Int)*285870213051353865)=((285870213051353865*2 ^ tz x % 18446744073709551616:Nat):Int):=by
  rw [IntKind.wrap_u64,Int.mul_comm]
  rfl
 obtain⟨t1,t2⟩:=ZeN ⟨tz x,hk⟩
 simp only at t1 t2
 refine Z2 ok83 (Nat.le_of_ble_eq_true rfl) fun C hC=>?_
 iterate 8 (first|refine st ?_|(apply B<;>intro hb<;>try cases hb))
 refine Z9l rfl rfl rfl (v:=false) (by simp; exact h) ?_
 (first|refine st ?_|(apply B<;>intro hb<;>try cases hb))
 (first|refine st ?_|(apply B<;>intro hb<;>try cases hb))
 iterate 6 (first|refine st ?_|(apply B<;>intro hb<;>try cases hb))
 refine Zm rfl rfl rfl hand ?_
 refine Zm rfl rfl rfl hmul ?_
 refine Zm rfl rfl rfl (v:=((285870213051353865*2 ^ tz x % 18446744073709551616 / 288230376151711744:Nat):Int)) ?_ ?_
 · show Int.fdiv _ (2 ^ 58) = _
   rw [Z7x]
 refine Z3 (Zhr rfl rfl t1) rfl rfl ?_
 refine Z3 (Zhj rfl t2) rfl rfl ?_
 refine Zm rfl rfl rfl (IntWalk.i64_in _ ⟨by omega,by omega⟩) ?_
 refine go ?_
 exact Z6 rfl trivial rfl
end Go.Proofs.YtcgaocnjebhimaaGreatDoor
namespace Go.Proofs.YtcgaocnjebhimaaGreatDoor
open Go.RowKit
attribute [local irreducible] aw opsK dK jw
def mem (N:Nat):List Nat:=(List.range 64).filter fun i=>N.testBit i
theorem Z1d {N i:Nat} (hN:N<18446744073709551616):i∈mem N↔N.testBit i=true:=by
 simp only [mem,List.mem_filter,List.mem_range]
 exact⟨fun h=>h.2,fun h=>⟨Z53 hN h,h⟩⟩
theorem Z6R (N:Nat):(mem N).Pairwise (· < ·):=List.Pairwise.filter _ List.pairwise_lt_range
theorem Z2E {N i:Nat} (h:i∈mem N):i<64:=by
 simp only [mem,List.mem_filter,List.mem_range] at h; exact h.1
theorem Z27 (N:Nat):(mem N).length≤64:=by
 have:=List.length_filter_le (fun i=>N.testBit i) (List.range 64)
 simpa [mem] using this
theorem Zde:∀ {l m:List Nat},l.Pairwise (· < ·)→m.Pairwise (· < ·)→(∀ x,x∈l↔x∈m)→l=m
 | [],[],_,_,_=>rfl
 | [],y :: m,_,_,h=>by have:=(h y).2 (by simp); cases this
 | x :: l,[],_,_,h=>by have:=(h x).1 (by simp); cases this
 | x :: l, y :: m, hl, hm, h => by
   rw [List.pairwise_cons] at hl hm
   have hxy:x=y:=by
    have h1:=(h x).1 (by simp)
    have h2:=(h y).2 (by simp)
    rcases List.mem_cons.1 h1 with h1|h1
    · exact h1
    · rcases List.mem_cons.1 h2 with h2 | h2
      · exact h2.symm
      · have:=hm.1 x h1; have:=hl.1 y h2; omega
   subst hxy
   congr 1
   refine Zde hl.2 hm.2 fun z=>?_
   constructor
   · intro hz
     rcases List.mem_cons.1 ((h z).1 (by simp [hz])) with hz' | hz'
     · have:=hl.1 z hz; omega
     · exact hz'
   · intro hz
     rcases List.mem_cons.1 ((h z).2 (by simp [hz])) with hz' | hz'
     · have:=hm.1 z hz; omega
     · exact hz'
theorem ZaP:mem 0 = []:=by simp [mem]
theorem ZeO {y:Nat} (hy:y<18446744073709551616) (h:y≠0):mem y=tz y :: mem (y &&& (y-1)):=by
 have hlt:y &&& (y-1)<18446744073709551616:=Nat.lt_of_le_of_lt Nat.and_le_left hy
 refine Zde (Z6R y) ?_ fun z=>?_
 · rw [List.pairwise_cons]
   refine⟨fun z hz=>?_,Z6R _⟩
   rw [Z1d hlt,Z4m h] at hz
   have h1:y.testBit z=true∧z≠tz y:=by simpa using hz
   have:=ZgS h h1.1
   omega
 · rw [List.mem_cons, Z1d hy, Z1d hlt, Z4m h]
   constructor
   · intro hz
     by_cases he:z=tz y
     · exact .inl he
     · exact .inr (by simp [hz,he])
   · rintro (rfl | hz)
     · exact Z8p h
     · have h1 : y.testBit z = true ∧ z ≠ tz y := by simpa using hz
       exact h1.1
abbrev MemT (N:Nat):={ i:Nat // i∈mem N }
def encM (N:Nat) (x:MemT N):List Value := [.int .i64 (x.val:Int)]
theorem Z1Q (N:Nat):Spec Tryz.prog 41 [setN N] (· = .fn 82 [.cp [.vec (words (digs N)) false]]):=by
 refine Z2 ok41 (Nat.le_of_ble_eq_true rfl) fun C hC=>?_
 refine Zl ?_
 refine Za ?_
 refine Z5 rfl rfl rfl ?_
 refine go ?_
 exact Z6 rfl ⟨⟨Z8 _,trivial⟩,trivial⟩ rfl
theorem ZeP {y:Nat} (hy:y<18446744073709551616):y &&& (y-1)<18446744073709551616:=Nat.lt_of_le_of_lt Nat.and_le_left hy
theorem ZeQ {y:Nat} (h:y≠0):y &&& (y-1)<y:=Nat.lt_of_le_of_lt Nat.and_le_right (by omega)
set_option maxHeartbeats 4000000 in
theorem Z2T (N:Nat) (hN:N<18446744073709551616):IterOk Tryz.prog 82 [.cp [.vec (words (digs N)) false]] (encM N) (fun xs=>xs.map (·.val)=mem N) (fun pre=>∃ t,pre.map (·.val)++t=mem N) (mem N).length:=by
 refine ZbP ok82 (Nat.le_of_ble_eq_true rfl) fun Y hYN hYe hYs hYn=>?_
 by_cases h0:N=0
 · subst h0
   rw [ZF]
   repeat' (first
    | refine Z4k ?_
    | refine Z1X ?_
    | refine Z1F ?_
    | refine Z1M rfl ?_
    | refine Z2R ?_
    | refine Z3R ?_
    | refine Z4O ?_
    | refine Z6N ?_
    | refine Z1P (b:=true) rfl (fun _=>?_) (fun h=>by cases h)
    | refine Z1P (b:=false) rfl (fun h=>by cases h) (fun _=>?_))
   refine Z9v (X:=Unit) (fun _=>True) (fun _=>0) (fun _=>[]) (fun _ => [(7,.val (.int .i64 ((0:Nat):Int))),(8,.val (.int .i64 0))]) () trivial rfl ⟨rfl,rfl,trivial⟩ ?_
   rintro⟨⟩ -
   repeat' (first
    | refine Z4k ?_
    | refine Z1X ?_
    | refine Z1F ?_
    | refine Z1M rfl ?_
    | refine Z2R ?_
    | refine Z3R ?_
    | refine Z4O ?_
    | refine Z6N ?_
    | refine Z1P (b:=true) rfl (fun _=>?_) (fun h=>by cases h)
    | refine Z1P (b:=false) rfl (fun h=>by cases h) (fun _=>?_))
   exact⟨.inl rfl,ZaP.symm⟩
 rw [Z4l hN h0]
 repeat' (first
  | refine Z4k ?_
  | refine Z1X ?_
  | refine Z1F ?_
  | refine Z1M rfl ?_
  | refine Z2R ?_
  | refine Z3R ?_
  | refine Z4O ?_
  | refine Z6N ?_
  | refine Z1P (b:=true) rfl (fun _=>?_) (fun h=>by cases h)
  | refine Z1P (b:=false) rfl (fun h=>by cases h) (fun _=>?_))
 refine Z9v (X:=Bool×List (MemT N)) (fun x=>(x.1=true→x.2.map (·.val)=mem N)∧(x.1=false→x.2 = [])) (fun x=>if x.1 then 0 else 1) (fun x=>x.2)
  (fun x => [(0,.val (.func (.yield Y.l) #[] #[])),(6,.vec [[.val (.int .u64 (N:Int))]] false),(7,.val (.int .i64 ((1:Nat):Int))),(8,.val (.int .i64 (if x.1 then 1 else 0)))]) (false,[]) ⟨by simp,by simp⟩ rfl ⟨rfl,rfl,rfl,rfl,trivial⟩ ?_
 rintro⟨b,pre⟩ ⟨hb1,hb2⟩
 simp only at hb1 hb2
 cases b with
 | true =>
   repeat' (first
    | refine Z4k ?_
    | refine Z1X ?_
    | refine Z1F ?_
    | refine Z1M rfl ?_
    | refine Z2R ?_
    | refine Z3R ?_
    | refine Z4O ?_
    | refine Z6N ?_
    | refine Z1P (b:=true) rfl (fun _=>?_) (fun h=>by cases h)
    | refine Z1P (b:=false) rfl (fun h=>by cases h) (fun _=>?_))
   exact⟨.inl rfl,hb1 rfl⟩
 | false =>
   obtain rfl:=hb2 rfl
   repeat' (first
    | refine Z4k ?_
    | refine Z1X ?_
    | refine Z1F ?_
    | refine Z1M rfl ?_
    | refine Z2R ?_
    | refine Z3R ?_
    | refine Z4O ?_
    | refine Z6N ?_
    | refine Z1P (b:=true) rfl (fun _=>?_) (fun h=>by cases h)
    | refine Z1P (b:=false) rfl (fun h=>by cases h) (fun _=>?_))
   refine Z9v (X:=Nat×List (MemT N)) (fun x=>x.1<18446744073709551616∧x.2.map (·.val)++mem x.1=mem N) (fun x=>x.1) (fun x=>x.2)
    (fun x => [(0,.val (.func (.yield Y.l) #[] #[])),(3,.val (.int .i64 0)),(4,.val (.int .u64 (x.1:Int))),(6,.vec [[.val (.int .u64 (N:Int))]] false),(7,.val (.int .i64 ((1:Nat):Int))),(8,.val (.int .i64 0))]) (N,[]) ⟨hN,by simp⟩ rfl ⟨rfl,rfl,rfl,rfl,rfl,rfl,trivial⟩ ?_
   rintro⟨y,pre⟩ ⟨hy,hpre⟩
   simp only at hy hpre
   refine Z4k ?_
   refine Z4k ?_
   refine Z1X ?_
   refine Z1M rfl ?_
   refine Z1M rfl ?_
   refine Z1F ?_
   by_cases hy0:y=0
   · subst hy0
     rw [ZaP,List.append_nil] at hpre
     repeat' (first
      | refine Z4k ?_
      | refine Z1X ?_
      | refine Z1F ?_
      | refine Z1M rfl ?_
      | refine Z2R ?_
      | refine Z3R ?_
      | refine Z4O ?_
      | refine Z6N ?_
      | refine Z1P (b:=true) rfl (fun _=>?_) (fun h=>by cases h)
      | refine Z1P (b:=false) rfl (fun h=>by cases h) (fun _=>?_))
     exact⟨(true,pre),⟨fun _=>hpre,fun h=>by cases h⟩,by simp,rfl,rfl,rfl,rfl,rfl,trivial⟩
   · have hne : ((y : Int) != 0) = true := by simp; exact hy0
     have hcond:∀ {e:Env},e 14=some (.val (.bool ((y:Int) != 0)))→ev e (.tmp 14)=some (.val (.bool true)):=fun h=>by rw [hne] at h; exact h
     refine Z1P (b:=true) (hcond rfl) (fun _=>?_) (fun h=>by cases h)
     rw [ZeO hy hy0] at hpre
     have hmem:tz y∈mem N:=by rw [← hpre]; simp
     have hlt:=Z2E hmem
     have hlen:pre.length<(mem N).length:=by rw [← hpre]; simp
     have hsum:IntKind.i64.wrap (IntKind.i64.wrap (64*0)+((tz y:Nat):Int))=((tz y:Nat):Int):=by
      rw [show IntKind.i64.wrap (64*0)=0 from rfl,Int.zero_add]
      exact IntWalk.i64_in _ ⟨by omega,by omega⟩
     refine Z3R ?_
     refine Z4k ?_
     refine Z2R ?_
     refine ZeM (al := [_,_,_,_,_,_]) (d1:=25) (d2:=26) ⟨tz y,hmem⟩ ?_
     refine Z1M rfl ?_
     refine Z1M rfl ?_
     refine Z1M rfl ?_
     refine Z1M rfl ?_
     refine Zdc (Zdd y hy hy0) rfl rfl rfl ⟨trivial,trivial⟩ ?_
     refine Z1M (p:=.val (.int .i64 ((tz y:Nat):Int))) ?_ ?_
     · show some (PV.val (Value.int .i64 (IntKind.i64.wrap (IntKind.i64.wrap (64 * 0) + ((tz y : Nat) : Int))))) = _
       rw [hsum]
     refine Z1F ⟨rfl,rfl,by rw [hYe]; rfl,by rw [hYN]; exact hlen,?_,?_⟩
     · rw [hYs]
       exact⟨mem (y &&& (y-1)),by rw [List.map_append,List.append_assoc]; exact hpre⟩
     have hand:bits .and .u64 (y:Int) (IntKind.u64.wrap ((y:Int)-1))=((y &&& (y-1):Nat):Int):=by
      rw [IntKind.wrap_u64,show ((y:Int)-1) % 18446744073709551616=((y-1:Nat):Int) by omega]
      exact bits_and_u64_nat _ _ hy (by omega)
     refine Z1X ?_
     refine Z1M rfl ?_
     refine Z1M rfl ?_
     refine Z1M rfl ?_
     refine Z1M (p:=.val (.int .u64 ((y &&& (y-1):Nat):Int))) ?_ ?_
     · show some (PV.val (Value.int .u64 (bits .and .u64 (y : Int) (IntKind.u64.wrap ((y : Int) - 1))))) = _
       rw [hand]
     refine Z1M rfl ?_
     refine Z1F ?_
     exact⟨(y &&& (y-1),pre ++ [⟨tz y,hmem⟩]),⟨ZeP hy,by rw [List.map_append,List.append_assoc]; exact hpre⟩,ZeQ hy0,rfl,rfl,rfl,rfl,rfl,rfl,rfl,trivial⟩
def intsN (l:List Nat):List Int:=l.map fun (x:Nat)=>(x:Int)
end Go.Proofs.YtcgaocnjebhimaaGreatDoor
namespace Go.Proofs.YtcgaocnjebhimaaGreatDoor
open Go.RowKit
abbrev Pr:=Nat×Nat
def prC (p:Pr):List PV := [.val (.int .i64 (p.1:Int)),.val (.int .i64 (p.2:Int))]
theorem Z3x (p:Pr):pureL (prC p):=⟨trivial,trivial,trivial⟩
inductive Up (l:List Pr):Nat→Nat→Prop
 | one {a b:Nat} (h:(a,b)∈l):Up l a b
 | more {a b c:Nat} (h:Up l a b) (k:(b,c)∈l):Up l a c
theorem ZgT {l:List Pr} {a b:Nat}:Up l a b↔∃ c,(c,b)∈l∧(a=c ∨ Up l a c):=by
 constructor
 · intro h
   cases h with
   | one h=>exact⟨a,h,.inl rfl⟩
   | more h k=>exact⟨_,k,.inr h⟩
 · rintro ⟨c, h, rfl | k⟩
   · exact .one h
   · exact .more k h
def Small (l:List Pr):Prop:=∀ p∈l,p.1<64∧p.2<64
theorem Up.lt {l:List Pr} (hl:Small l) {a b:Nat} (h:Up l a b):a<64∧b<64:=by
 induction h with
 | one h=>exact hl _ h
 | more _ k ih=>exact⟨ih.1,(hl _ k).2⟩
def Acy (l:List Pr):Prop:=∃ rank:Nat→Nat,∀ p∈l,rank p.1<rank p.2
theorem Acy.sub {l m:List Pr} (h:Acy m) (hs:∀ p∈l,p∈m):Acy l:=by
 obtain⟨r,hr⟩:=h
 exact⟨r,fun p hp=>hr p (hs p hp)⟩
def ofP (p:Nat→Bool):Nat→Nat
 | 0=>0
 | k+1=>if p k then ofP p k ||| 2 ^ k else ofP p k
theorem Z7z (p:Nat→Bool):∀ k i,(ofP p k).testBit i=(decide (i<k)&&p i)
 | 0,i=>by simp [ofP]
 | k + 1, i => by
   have ih:=Z7z p k i
   unfold ofP
   by_cases hk:i=k
   · subst hk
     cases hp:p i with
     | true=>rw [if_pos rfl,Nat.testBit_or,Nat.testBit_two_pow_self]; simp
     | false=>rw [if_neg (by decide),ih]; simp
   · have h2 : decide (i < k + 1) = decide (i < k) := decide_eq_decide.2 (by omega)
     rw [h2]
     split
     · rw [Nat.testBit_or,Nat.testBit_two_pow_of_ne (by omega),Bool.or_false,ih]
     · exact ih
theorem ZfM (p:Nat→Bool):∀ k,ofP p k<2 ^ k
 | 0=>by simp [ofP]
 | k + 1 => by
   have:=ZfM p k
   have h2:2 ^ (k+1)=2 ^ k+2 ^ k:=by rw [Nat.pow_succ]; omega
   unfold ofP
   split
   · exact Nat.or_lt_two_pow (by omega) (by omega)
   · omega
theorem Zdf (p:Nat→Bool):ofP p 64<18446744073709551616:=ZfM p 64
theorem eq64 {a b:Nat} (ha:a<18446744073709551616) (hb:b<18446744073709551616) (h:∀ i,i<64→a.testBit i=b.testBit i):a=b:=by
 apply Nat.eq_of_testBit_eq
 intro i
 by_cases hi:i<64
 · exact h i hi
 · have e : ∀ {x : Nat}, x < 18446744073709551616 → x.testBit i = false := fun {x} hx => Nat.testBit_lt_two_pow (Nat.lt_of_lt_of_le hx (Nat.pow_le_pow_right (n := 2) (by decide) (show 64 ≤ i by omega)))
   rw [e ha,e hb]
open Classical in
noncomputable def abv (l:List Pr) (b:Nat):Nat:=ofP (fun a=>decide (Up l a b)) 64
open Classical in
noncomputable def bel (l:List Pr) (a:Nat):Nat:=ofP (fun b=>decide (Up l a b)) 64
theorem Z5P {l:List Pr} (hl:Small l) (a b:Nat):(abv l b).testBit a=true↔Up l a b:=by
 unfold abv
 rw [Z7z]
 simp only [Bool.and_eq_true,decide_eq_true_eq]
 exact⟨fun h=>h.2,fun h=>⟨(h.lt hl).1,h⟩⟩
theorem Zdg {l:List Pr} (hl:Small l) (a b:Nat):(bel l a).testBit b=true↔Up l a b:=by
 unfold bel
 rw [Z7z]
 simp only [Bool.and_eq_true,decide_eq_true_eq]
 exact⟨fun h=>h.2,fun h=>⟨(h.lt hl).2,h⟩⟩
theorem Z5Q (l:List Pr) (b:Nat):abv l b<18446744073709551616:=Zdf _
theorem Zdh (l:List Pr) (a:Nat):bel l a<18446744073709551616:=Zdf _
structure Topo (l:List Pr) (S:List Nat):Prop where
 nodup:S.Nodup
 lt:∀ x∈S,x<64
 pred:∀ (t:Nat) (ht:t<S.length) (a:Nat),(a,S[t])∈l→a∈S.take t
theorem Topo.nil (l:List Pr):Topo l []:=⟨List.nodup_nil,fun _ h=>(by cases h),fun t ht=>absurd ht (Nat.not_lt_zero t)⟩
theorem Topo.closed {l:List Pr} {S:List Nat} (h:Topo l S) {a b:Nat} (hp:(a,b)∈l) (hb:b∈S):a∈S:=by
 obtain⟨t,ht,rfl⟩:=List.getElem_of_mem hb
 exact List.mem_of_mem_take (h.pred t ht a hp)
theorem Topo.snoc {l:List Pr} {S:List Nat} (h:Topo l S) {k:Nat} (hk:k ∉ S) (h64:k<64) (hp:∀ a,(a,k)∈l→a∈S):Topo l (S ++ [k]):=by
 refine⟨?_,?_,?_⟩
 · rw [List.nodup_append]
   exact⟨h.nodup,by simp,fun a ha b hb e=>by rw [List.mem_singleton] at hb; subst hb; subst e; exact hk ha⟩
 · intro x hx
   rcases List.mem_append.1 hx with hx|hx
   · exact h.lt x hx
   · rw [List.mem_singleton] at hx; omega
 · intro t ht a ha
   rw [List.length_append,List.length_singleton] at ht
   by_cases htl:t<S.length
   · rw [List.getElem_append_left htl] at ha
     rw [List.take_append_of_le_length (by omega)]
     exact h.pred t htl a ha
   · have e : t = S.length := by omega
     subst e
     rw [List.getElem_append_right (Nat.le_refl _)] at ha
     simp only [Nat.sub_self,List.getElem_singleton] at ha
     rw [List.take_left']
     · exact hp a ha
     · rfl
theorem Z24:∀ (n:Nat) (S:List Nat),S.Nodup→(∀ x∈S,x<n)→S.length≤n
 | 0, S, _, h => by
   cases S with
   | nil=>exact Nat.le_refl _
   | cons a S=>exact absurd (h a (List.mem_cons_self ..)) (Nat.not_lt_zero a)
 | n + 1, S, hn, h => by
   have hlen:=List.length_erase (a:=n) (l:=S)
   have ih:=Z24 n (S.erase n) (hn.sublist List.erase_sublist) fun x hx=>by
    have h1:=h x (List.mem_of_mem_erase hx)
    have h2:x≠n:=fun e=>by rw [e] at hx; exact (List.Nodup.mem_erase_iff hn).1 hx |>.1 rfl
    omega
   split at hlen<;>omega
theorem Topo.len {l:List Pr} {S:List Nat} (h:Topo l S):S.length≤64:=Z24 64 S h.nodup h.lt
theorem Topo.all {l:List Pr} {S:List Nat} (h:Topo l S) (h64:S.length=64) {j:Nat} (hj:j<64):j∈S:=by
 apply Classical.byContradiction
 intro hno
 have:=Z24 64 (j :: S) (List.nodup_cons.2 ⟨hno,h.nodup⟩) fun x hx=>by
  rcases List.mem_cons.1 hx with rfl|hx
  · exact hj
  · exact h.lt x hx
 rw [List.length_cons] at this
 omega
theorem kahn {l:List Pr} (hl:Small l) (hacy:Acy l) {S:List Nat} (h:Topo l S) (hlt:S.length<64):∃ j,j<64∧j ∉ S∧∀ a,(a,j)∈l→a∈S:=by
 obtain⟨rank,hr⟩:=hacy
 have key:∀ m j,rank j≤m→j<64→j ∉ S→∃ j,j<64∧j ∉ S∧∀ a,(a,j)∈l→a∈S:=by
  intro m
  induction m with
  | zero =>
    intro j hm hj hno
    exact⟨j,hj,hno,fun a ha=>by have:=hr _ ha; simp only at this; omega⟩
  | succ m ih =>
    intro j hm hj hno
    by_cases hall:∀ a,(a,j)∈l→a∈S
    · exact⟨j,hj,hno,hall⟩
    · obtain ⟨a, ha⟩ := Classical.not_forall.1 hall
      obtain⟨ha,hna⟩:=Classical.not_imp.1 ha
      have h1:=hr _ ha
      simp only at h1
      exact ih a (by omega) (hl _ ha).1 hna
 have hex:∃ j,j<64∧j ∉ S:=by
  apply Classical.byContradiction
  intro hno
  have hall:∀ j,j<64→j∈S:=fun j hj=>Classical.byContradiction fun h=>hno ⟨j,hj,h⟩
  have hp:(List.range 64).Perm S:=(List.perm_ext_iff_of_nodup List.nodup_range h.nodup).2 fun x=>by
   rw [List.mem_range]
   exact⟨hall x,h.lt x⟩
  have:=hp.length_eq
  rw [List.length_range] at this
  omega
 obtain⟨j,hj,hno⟩:=hex
 exact key _ j (Nat.le_refl _) hj hno
def leftA (l:List Pr) (S:List Nat) (j:Nat):Int:=if j∈S then -1 else (l.countP fun p=>p.2 == j && !decide (p.1∈S):Nat)
def leftB (l:List Pr) (S:List Nat) (k i j:Nat):Int:=if j∈S ++ [k] then -1 else ((l.take i).countP (fun p=>p.2 == j && !decide (p.1∈S ++ [k]))+(l.drop i).countP (fun p=>p.2 == j && !decide (p.1∈S)):Nat)
theorem Z6S {l:List Pr} {S:List Nat} {j:Nat}:leftA l S j=0↔j ∉ S∧∀ a,(a,j)∈l→a∈S:=by
 unfold leftA
 split
 · rename_i h; exact⟨fun e=>absurd e (by decide),fun e=>absurd h e.1⟩
 · rename_i h
   rw [show ((0:Int))=((0:Nat):Int) from rfl,Int.ofNat_inj,List.countP_eq_zero]
   constructor
   · intro h2
     refine⟨h,fun a ha=>?_⟩
     have:=h2 _ ha
     simpa using this
   · rintro ⟨-, h2⟩ p hp
     by_cases e:p.2=j
     · have := h2 p.1 (by rw [← e]; exact hp)
       simp [this]
     · simp [e]
theorem ZbQ (l:List Pr) (S:List Nat) (k j:Nat):leftB l S k 0 j=if j=k then -1 else leftA l S j:=by
 unfold leftB leftA
 rw [List.take_zero,List.drop_zero,List.countP_nil,Nat.zero_add]
 by_cases hk:j=k
 · rw [if_pos hk,if_pos (by rw [hk]; simp)]
 · rw [if_neg hk]
   by_cases hj:j∈S
   · rw [if_pos hj,if_pos (List.mem_append_left _ hj)]
   · rw [if_neg hj,if_neg (by simp [hj,hk])]
theorem Zdi (l:List Pr) (S:List Nat) (k j:Nat):leftB l S k l.length j=leftA l (S ++ [k]) j:=by
 unfold leftB leftA
 rw [List.take_length,List.drop_length,List.countP_nil,Nat.add_zero]
theorem ZbR {l:List Pr} {S:List Nat} {k i:Nat} (hi:i<l.length) (j:Nat) (hT:Topo l S) (hk:k ∉ S) (hp:∀ a,(a,k)∈l→a∈S) :
 leftB l S k (i+1) j=if l[i].1=k∧j=l[i].2 then leftB l S k i j-1 else leftB l S k i j:=by
 have htk:l.take (i+1)=l.take i ++ [l[i]]:=by rw [List.take_add_one,List.getElem?_eq_getElem hi]; rfl
 have hdr:l.drop i=l[i] :: l.drop (i+1):=List.drop_eq_getElem_cons hi
 have hmem:l[i]∈l:=List.getElem_mem hi
 unfold leftB
 rw [htk,hdr,List.countP_append,List.countP_cons,List.countP_nil,Nat.zero_add,List.countP_cons]
 generalize l[i]=p at hmem
 by_cases hpk:p.1=k
 · have hkk : (k, p.2) ∈ l := by rw [← hpk]; exact hmem
   have hp2:p.2 ∉ S ++ [k]:=by
    rw [List.mem_append,List.mem_singleton]
    rintro (h|h)
    · exact hk (hT.closed hkk h)
    · rw [h] at hkk; exact hk (hp k hkk)
   by_cases hj:j=p.2
   · have e1 : (p.2 == j && !decide (p.1 ∈ S ++ [k])) = false := by rw [hpk]; simp
     have e2:(p.2 == j && !decide (p.1∈S))=true:=by rw [hpk,hj]; simp [hk]
     have hjn:¬ j∈S ++ [k]:=hj▸hp2
     rw [e1,e2,if_pos (show p.1=k∧j=p.2 from ⟨hpk,hj⟩),if_neg hjn,if_neg hjn,if_neg Bool.false_ne_true,if_pos rfl]
     omega
   · rw [if_neg (show ¬ (p.1 = k ∧ j = p.2) from fun h => hj h.2)]
     have e:(p.2 == j)=false:=by rw [beq_eq_false_iff_ne]; exact Ne.symm hj
     simp only [e,Bool.false_and,Bool.false_eq_true,if_false,Nat.add_zero]
 · rw [if_neg (show ¬ (p.1 = k ∧ j = p.2) from fun h => hpk h.1)]
   have e:decide (p.1∈S ++ [k])=decide (p.1∈S):=decide_eq_decide.2 (by rw [List.mem_append,List.mem_singleton]; exact⟨fun h=>h.elim id fun h=>absurd h hpk,.inl⟩)
   rw [e]
   by_cases hjn:j∈S ++ [k]
   · rw [if_pos hjn,if_pos hjn]
   · rw [if_neg hjn,if_neg hjn]; omega
theorem ZeR (l:List Pr) (S:List Nat) (k i j:Nat) : -1≤leftB l S k i j∧leftB l S k i j≤l.length:=by
 unfold leftB
 have h1:=List.countP_le_length (p:=fun p:Pr=>p.2 == j && !decide (p.1∈S ++ [k])) (l:=l.take i)
 have h2:=List.countP_le_length (p:=fun p:Pr=>p.2 == j && !decide (p.1∈S)) (l:=l.drop i)
 rw [List.length_take] at h1
 rw [List.length_drop] at h2
 split<;>omega
def cntP (l:List Pr) (j:Nat):Nat:=l.countP fun p=>p.2 == j
theorem Zdj {l:List Pr} {i:Nat} (hi:i<l.length) (j:Nat):cntP (l.take (i+1)) j=if j=l[i].2 then cntP (l.take i) j+1 else cntP (l.take i) j:=by
 have htk:l.take (i+1)=l.take i ++ [l[i]]:=by rw [List.take_add_one,List.getElem?_eq_getElem hi]; rfl
 unfold cntP
 rw [htk,List.countP_append,List.countP_singleton]
 by_cases h:j=l[i].2
 · rw [if_pos h]; simp [h]
 · rw [if_neg h]; simp [Ne.symm h]
theorem ZeS (l:List Pr) (j:Nat):leftA l [] j=(cntP l j:Nat):=by
 unfold leftA cntP
 simp
theorem Zgd (l:List Pr) (j:Nat):cntP l j≤l.length:=List.countP_le_length
def tab (f:Nat→List PV):List (List PV):=(List.range 64).map f
theorem ZQ (f:Nat→List PV):(tab f).length=64:=by simp [tab]
theorem Z2u {f:Nat→List PV} {i:Nat} (hi:i<64):(tab f).getD i []=f i:=by
 rw [List.getD_eq_getElem?_getD,tab,List.getElem?_map,List.getElem?_range hi]; rfl
theorem Zdk {f:Nat→List PV} {i:Nat} (r:List PV) (hi:i<64):(tab f).set i r=tab fun j=>if j=i then r else f j:=by
 apply List.ext_getElem?
 intro j
 rw [List.getElem?_set,ZQ]
 unfold tab
 rw [List.getElem?_map,List.getElem?_map]
 by_cases hj:j<64
 · rw [List.getElem?_range hj]
   by_cases e:i=j
   · subst e; simp [hi]
   · rw [if_neg e]; simp [Ne.symm e]
 · rw [List.getElem?_eq_none (by simpa using hj)]
   by_cases e:i=j
   · subst e; exact absurd hi hj
   · rw [if_neg e]; rfl
theorem Z3f {f g:Nat→List PV} (h:∀ j,j<64→f j=g j):tab f=tab g:=List.map_congr_left fun j hj=>h j (List.mem_range.1 hj)
theorem Z1q {f:Nat→List PV} (h:∀ j,pureL (f j)):pureLL (tab f):=by
 refine (Z1V _ _).2 fun r hr=>?_
 obtain⟨j,_,rfl⟩:=List.mem_map.1 hr
 exact h j
theorem Zge (r:List PV):List.replicate 64 r=tab fun _=>r:=by rw [tab,List.map_const',List.length_range]
def intR (f:Nat→Int) (j:Nat):List PV := [.val (.int .i64 (f j))]
theorem Z4n (f:Nat→Int) (j:Nat):pureL (intR f j):=⟨trivial,trivial⟩
end Go.Proofs.YtcgaocnjebhimaaGreatDoor
namespace Go.Proofs.YtcgaocnjebhimaaGreatDoor
def rW {α:Type}:Result α→World
 | .ok _ w=>w
 | .halt _ w=>w
def sW:Stepped→Option World
 | .next m=>some m.world
 | .ended _ _=>none
def gW:GStep→Option World
 | .go _ w _=>some w
 | .comm _ _ _ _ w _=>some w
 | .spawn _ _ w _=>some w
 | .count _ w _=>some w
 | .timer _ _ w _=>some w
 | .alone _ _ w _=>some w
 | .newcoro _ _ _ w _=>some w
 | .coroswitch _ _ _ w _=>some w
 | .collect _ w _=>some w
 | .watch _ w _=>some w
 | .ended _ _ _=>none
def UpTo (D:Nat):Option World→Prop
 | some w=>D≤w.drawn
 | none=>True
theorem UpTo.mono {D E:Nat} (h:D≤E):∀ {o:Option World},UpTo E o→UpTo D o
 | some _,k=>Nat.le_trans h k
 | none,_=>trivial
@[simp] theorem Z3y (es:Array Event) (s:GStep):gW (GStep.after es s)=gW s:=by cases s<;>rfl
theorem Z5R {α:Type}:∀ (x:Ask α) (w:World),w.drawn≤(w.ask x).2.drawn
 | .done a,w=>Nat.le_refl _
 | .ask what range k, w => by
   rw [World.ask]
   split
   · exact Z5R _ w
   · exact Nat.le_trans (Nat.le_succ _) (Z5R _ { w with drawn:=w.drawn+1 })
theorem Zdl (w:World) (c:Sys):w.drawn≤(w.sys c).2.drawn:=by
 have h:=Z5R (Kernel.perform c w.os) w
 unfold World.sys
 generalize w.ask (Kernel.perform c w.os)=x at h
 obtain⟨⟨r,os⟩,w'⟩:=x
 cases r<;>first|exact Nat.le_refl _|exact h
theorem Z5S {p:Program} {w w':World} {a:Addr} {u:TypeId} {k:Addr} {v:Value} {at':Bool} {l:List Addr} (h:w.viewStore p a u k v at'=.ok (w',l)):w'.drawn=w.drawn:=by
 unfold World.viewStore at h
 simp only [bind,Except.bind,pure,Except.pure] at h
 repeat' first
  | (cases h; done)
  | (cases h; rfl)
  | split at h
theorem Z6u {p:Program} {w w':World} {a:Addr} {v:Value} {at':Bool} {l:List Addr} (h:w.farStore p a v at'=.ok (w',l)):w'.drawn=w.drawn:=by
 unfold World.farStore at h
 repeat' first
  | (cases h; done)
  | (rename_i hv; cases h; exact Z5S hv)
  | split at h
theorem Z8q {α:Type} (P:Program):∀ (s:Sem α) (w:World),w.drawn≤(rW (s.run P w)).drawn:=by
 intro s
 induction s with
 | pure a=>exact fun w=>Nat.le_refl _
 | load m a k ih =>
   intro w
   simp only [Sem.run]
   split
   · exact ih _ _
   · split
     · exact ih _ _
     · exact Nat.le_refl _
 | store m a v k ih =>
   intro w
   cases v<;>simp only [Sem.run]<;>first
    | exact Nat.le_refl _
    | (split
       · split
         · exact Nat.le_refl _
         · exact ih (w.setCell a _)
       · split
         · rename_i hf
           exact Nat.le_trans (Nat.le_of_eq (Z6u hf).symm) (ih _)
         · exact Nat.le_refl _)
 | new o k ih=>intro w; simp only [Sem.run]; exact ih _ { w with heap:=w.heap.push o }
 | shape r k ih=>intro w; simp only [Sem.run]; exact ih _ _
 | freeze a n k ih =>
   intro w
   simp only [Sem.run]
   refine Nat.le_trans (Nat.le_of_eq ?_) (ih _)
   unfold World.freeze
   split<;>rfl
 | frozen a k ih=>intro w; simp only [Sem.run]; exact ih _ _
 | getObj r k ih =>
   intro w
   simp only [Sem.run]
   split
   · exact Nat.le_refl _
   · exact ih _ _
   · exact Nat.le_refl _
 | setObj r o k ih =>
   intro w
   simp only [Sem.run]
   split
   · exact Nat.le_refl _
   · exact ih { w with heap:=w.heap.setIfInBounds r o }
   · exact Nat.le_refl _
 | choose q k ih =>
   intro w
   simp only [Sem.run]
   split
   · exact ih _ _
   · exact Nat.le_trans (Nat.le_succ _) (ih _ { w with drawn:=w.drawn+1 })
 | sys c k ih=>intro w; simp only [Sem.run]; exact Nat.le_trans (Zdl w c) (ih _ _)
 | program k ih=>intro w; simp only [Sem.run]; exact ih _ _
 | mark m k ih=>intro w; simp only [Sem.run]; exact ih _
 | halt h=>exact fun w=>Nat.le_refl _
theorem Z10 {α:Type} {P:Program} {s:Sem α} {w w':World} {a:α} (h:s.run P w=.ok a w'):w.drawn≤w'.drawn:=by
 have:=Z8q P s w
 rwa [h] at this
theorem Z1I {α:Type} {P:Program} {s:Sem α} {w w':World} {a:Halt} (h:s.run P w=.halt a w'):w.drawn≤w'.drawn:=by
 have:=Z8q P s w
 rwa [h] at this
theorem Z5T {α β:Type} {P:Program} {s:Sem α} {t:Sem β} {w w1 w2:World} {a:α} {b:β} (h:s.run P w=.ok a w1) (k:t.run P w1=.ok b w2):w.drawn≤w2.drawn:=Nat.le_trans (Z10 h) (Z10 k)
theorem Zgf {α β:Type} {P:Program} {s:Sem α} {t:Sem β} {w w1 w2:World} {a:α} {b:Halt} (h:s.run P w=.ok a w1) (k:t.run P w1=.halt b w2):w.drawn≤w2.drawn:=Nat.le_trans (Z10 h) (Z1I k)
theorem Zdm {D:Nat} {α:Type} {o:Option α} {a:GStep} {f:α→GStep} (ha:UpTo D (gW a)) (hf:∀ k,UpTo D (gW (f k))):UpTo D (gW (o.elim a f)):=by
 cases o with
 | none=>exact ha
 | some k=>exact hf k
theorem Z2v (p:Program) (main:Bool) (fr:Frame) (callers:List Frame) (dying:Option Dying) (v:Value) (w:World):UpTo w.drawn (gW (doReturn p main fr callers dying v w)):=by
 unfold doReturn
 repeat' first
  | exact Nat.le_refl _
  | trivial
  | split
theorem Z3S (fr:Frame) (a:List ByteArray) (m:String) (b:Bool) (w:World):UpTo w.drawn (gW (dieOf fr a m b w)):=Nat.le_refl _
theorem Z2F (p:Program) (fr:Frame) (v:Value) (w:World):UpTo w.drawn (gW (endPrinting p fr v w)):=by
 unfold endPrinting
 simp only []
 split
 · exact Nat.le_refl _
 · trivial
theorem Z3N (p:Program) (fr:Frame) (callers:List Frame) (dying:Option Dying) (m:String) (w:World):UpTo w.drawn (gW (endFatal p fr callers dying m w)):=by
 unfold endFatal
 simp only []
 split
 · rename_i h
   exact Z10 h
 · trivial
 · trivial
theorem Z7A (w:World) (fd:Nat) (t:ByteArray) (o:Outcome):UpTo w.drawn (gW (endWith w fd t o)):=by
 unfold endWith
 simp only []
 repeat' first
  | trivial
  | split
theorem Z7B (p:Program) (fr:Frame) (d:Dying) (f:Fatal) (w:World):UpTo w.drawn (gW (writeOn p fr d f w)):=by
 unfold writeOn
 simp only [Sem.runT_eq]
 split
 · trivial
 · split
   · rename_i h
     exact Z10 (Prod.mk.inj h).1
   · rename_i h
     exact Z1I (Prod.mk.inj h).1
   · trivial
   · trivial
theorem Zdn (p:Program) (fr:Frame) (d:Dying) (w:World):UpTo w.drawn (gW (die p fr d w)):=by
 unfold die
 simp only [Sem.runT_eq]
 repeat' first
  | exact Nat.le_refl _
  | trivial
  | exact Z7B _ _ _ _ _
  | exact Z7A _ _ _ _
  | exact Z10 (by assumption)
  | exact (Z2F _ _ _ _).mono (Z1I (by assumption))
  | rw [Z3y]
  | split
theorem Z4o (p:Program) (fr:Frame) (callers:List Frame) (dying:Option Dying) (d:Deferred) (w:World):UpTo w.drawn (gW (callDeferred p fr callers dying d w)):=by
 unfold callDeferred
 simp only [Sem.runT_eq]
 repeat' first
  | exact Nat.le_refl _
  | trivial
  | exact Z10 (by assumption)
  | exact Z1I (by assumption)
  | exact (Z3N _ _ _ _ _ _).mono (Z1I (by assumption))
  | exact (Z3S _ _ _ _ _).mono (Z1I (by assumption))
  | rw [Z3y]
  | split
theorem Z8r (p:Program) (main:Bool) (fr:Frame) (callers:List Frame) (dying:Option Dying) (w:World):UpTo w.drawn (gW (unwind p main fr callers dying w)):=by
 unfold unwind
 simp only [Sem.runT_eq]
 repeat' first
  | exact Nat.le_refl _
  | trivial
  | exact Z4o _ _ _ _ _ _
  | exact Z2v _ _ _ _ _ _ _
  | exact Z2F _ _ _ _
  | exact Z10 (by assumption)
  | exact (Z2v _ _ _ _ _ _ _).mono (Z10 (by assumption))
  | rw [Z3y]
  | split
theorem Z9x (p:Program) (fr:Frame) (callers:List Frame) (dying:Option Dying) (g:Nat) (w:World):UpTo w.drawn (gW (early p fr callers dying g w)):=by
 unfold early
 simp only []
 repeat' first
  | exact Nat.le_refl _
  | trivial
  | exact Z10 (by assumption)
  | (simp only [gW,UpTo]; exact Z10 (by assumption))
  | rw [Z3y]
  | split
theorem Z3T (p:Program) (b:Bool) (fr:Frame) (callers:List Frame) (dying:Option Dying) (s:Sem Next) (w:World):UpTo w.drawn (gW (stepG.apply p b fr callers dying s w)):=by
 unfold stepG.apply
 simp only [Sem.runT_eq]
 have hs:(if b=true then (s.run p w,s.events p w #[]) else (s.run p w,#[])).1=s.run p w:=by split<;>rfl
 generalize (if b=true then (s.run p w,s.events p w #[]) else (s.run p w,#[]))=x at hs ⊢
 obtain⟨r,es⟩:=x
 simp only at hs ⊢
 subst hs
 repeat' first
  | exact Nat.le_refl _
  | trivial
  | exact Z10 (by assumption)
  | exact Z1I (by assumption)
  | exact (Z3N _ _ _ _ _ _).mono (Z1I (by assumption))
  | exact (Z3S _ _ _ _ _).mono (Z1I (by assumption))
  | exact (Z3S _ _ _ _ _).mono (Z10 (by assumption))
  | exact (Z9x _ _ _ _ _ _).mono (Z1I (by assumption))
  | rw [Z3y]
  | split
theorem ZbS (p:Program) (b:Bool) (fr:Frame) (callers:List Frame) (dying:Option Dying) (w:World):UpTo w.drawn (gW (stepG.oper p b fr callers dying w)):=by
 unfold stepG.oper
 repeat' first
  | trivial
  | exact Z3T _ _ _ _ _ _ _
  | split
theorem ZbT (p:Program) (main b:Bool) (fr:Frame) (callers:List Frame) (dying:Option Dying) (w:World):UpTo w.drawn (gW (stepG.exec p main b fr callers dying w)):=by
 unfold stepG.exec
 simp only [Sem.runT_eq]
 repeat' first
  | exact Nat.le_refl _
  | trivial
  | exact Z3T _ _ _ _ _ _ _
  | exact ZbS _ _ _ _ _ _
  | exact Z10 (by assumption)
  | exact Z1I (by assumption)
  | exact (Z3T _ _ _ _ _ _ _).mono (Z10 (by assumption))
  | exact (Z2v _ _ _ _ _ _ _).mono (Z10 (by assumption))
  | rw [Z3y]
  | refine Zdm ?_ (fun _=>?_)
  | split
theorem Z9y (p:Program) (main b:Bool) (g:Goroutine) (w:World):UpTo w.drawn (gW (stepG p main g w b)):=by
 unfold stepG
 repeat' first
  | exact Zdn _ _ _ _
  | exact ZbT _ _ _ _ _ _ _
  | exact Z8r _ _ _ _ _ _
  | split
theorem Z4Q {p:Program} {rest:Rest} {gs:Array Goroutine} {i:Nat} {g:Goroutine} {cases:Array CommCase} {b:Bool} {shape:CommShape} {w:World}:UpTo w.drawn (sW (communicate p rest gs i g cases b shape w).1):=by
 have hwait:∀ w',waitingAt rest cases w=some w'→w'.drawn=w.drawn:=by
  intro w' h
  unfold waitingAt at h
  repeat' first
   | (cases h; done)
   | (cases h; rfl)
   | split at h
 unfold communicate
 simp only []
 repeat' first
  | exact Nat.le_refl _
  | trivial
  | exact Z10 (by assumption)
  | (simp only [sW,UpTo]; exact Z10 (by assumption))
  | (simp only [sW,UpTo]; exact Nat.le_of_eq (hwait _ (by assumption)).symm)
  | (simp only [sW,UpTo]; exact Z5T (by assumption) (by assumption))
  | (simp only [sW,UpTo]; exact Zgf (by assumption) (by assumption))
  | split
theorem Z6T (p:Program) (gs:Array Goroutine) (rest:Rest) (w:World):UpTo w.drawn (sW (look p gs rest w)):=by
 unfold look
 simp only []
 repeat' first
  | exact Nat.le_refl _
  | trivial
  | (simp only [sW,UpTo]; exact Z10 (by assumption))
  | split
theorem Z7C {m:Machine} {op:TimerOp} {v:Value} {m':Machine} (h:timerOp m op=.ok (v,m')):m'.world.drawn=m.world.drawn:=by
 have hr:∀ (m:Machine) (k:Nat) (t:Timer) (a b:Nat),(retime m k t a b).2.world.drawn=m.world.drawn:=by
  intro m k t a b
  unfold retime drain
  simp only []
  repeat' first
   | rfl
   | split
 have ho:∀ (m':Machine) (a:Addr),timerOp.opened m a=some m'→m'.world.drawn=m.world.drawn:=by
  intro m' a h
  unfold timerOp.opened at h
  repeat' first
   | (cases h; done)
   | (cases h; rfl)
   | split at h
 have hn:∀ (a:Addr) (f:Nat→Timer→Value×Machine) (D:Nat),(∀ k t,(f k t).2.world.drawn=D)→timerOp.named m a f=.ok (v,m')→m'.world.drawn=D:=by
  intro a f D hf h
  unfold timerOp.named at h
  split at h
  · rename_i k _
    have:=hf k (m.rest.timers.getD k default)
    injection h with h
    rw [h] at this
    exact this
  · cases h
 unfold timerOp at h
 simp only [] at h
 repeat' first
  | (cases h; done)
  | (cases h; rfl)
  | exact hn _ _ _ (fun k t=>hr _ _ _ _ _) h
  | (rename_i ho'; rw [← ho _ _ ho']; exact hn _ _ _ (fun k t=>hr _ _ _ _ _) h)
  | split at h
theorem ZbU (p:Program) (m:Machine) (i:Nat) (b:Bool):UpTo m.world.drawn (sW (runT p m i b).1):=by
 simp only [runT]
 generalize m.gs.swapAt! _ _=gg
 have hs:=Z9y p (i == 0) b gg.1 m.world
 generalize stepG p _ gg.1 m.world b=s at hs
 cases s<;>simp only [gW] at hs ⊢
 all_goals first
  | exact hs
  | trivial
  | exact Z4Q.mono hs
  | exact (Z6T _ _ _ _).mono hs
  | skip
 all_goals repeat' first
  | exact hs
  | trivial
  | (simp only [sW,UpTo]; rename_i ht; exact Nat.le_trans hs (Nat.le_of_eq (Z7C ht).symm))
  | split
theorem Z9z (p:Program) (m:Machine) (k:Nat):UpTo m.world.drawn (sW (serve p m k)):=by
 unfold serve
 simp only []
 repeat' first
  | exact Nat.le_refl _
  | trivial
  | split
def mW:Move→Option World
 | .goroutine m _=>some m.world
 | .machine s _=>sW s
theorem Z3U (p:Program) (m:Machine):UpTo m.world.drawn (mW (askOn p m)):=by
 have pick:∀ (D:Nat) (rs:List Nat) (m:Machine),D≤m.world.drawn→UpTo D (mW (match (choose (.sched rs.length)).run p m.world with
  | .halt _ w => .machine (.ended (.stuck "sched" "") w)
  | .ok k world =>
    if rs.length≤1 then .goroutine { m with world } (rs.getD k 0) else
    match (choose (.extern "sched.slice" 65536)).run p world with
    | .halt _ w => .machine (.ended (.stuck "sched.slice" "") w)
    | .ok n world=>.goroutine { m with world,rest:={ m.rest with slice:=if n=0 then none else some (rs.getD k 0,n) } } (rs.getD k 0))):=by
  intro D rs m hD
  refine UpTo.mono hD ?_
  repeat' first
   | trivial
   | (simp only [mW,UpTo]; exact Z10 (by assumption))
   | (simp only [mW,UpTo]; exact Z5T (by assumption) (by assumption))
   | split
 unfold askOn
 simp only []
 generalize hs:(if (due m.rest.timers m.world.os.mono).isEmpty=true then (pure 0:Sem Nat)
  else choose (.extern "timer.serve" ((due m.rest.timers m.world.os.mono).length + (if ((runnable m.gs m.world.os.mono).isEmpty && (ahead m false).isNone) = true then 0 else 1)))) = s0
 cases hr:s0.run p m.world with
 | halt h w=>trivial
 | ok k world =>
   simp only []
   split
   · exact (Z9z p { m with world } _).mono (Z10 hr)
   · split
     · split
       · exact show m.world.drawn≤world.drawn from Z10 hr
       · split
         · exact show m.world.drawn≤world.drawn from Z10 hr
         · split<;>trivial
     · split
       · exact pick _ _ { m with world } (Z10 hr)
       · split
         · trivial
         · exact pick _ _ { m with world:=_ } (Z5T hr (by assumption))
         · simp only [mW, sW, UpTo, Machine.advanceTo]
           exact Z5T hr (by assumption)
         · rename_i w2 h2
           exact pick _ _ (Machine.advanceTo { m with world:=w2 } _) (show m.world.drawn≤w2.drawn from Z5T hr h2)
theorem ask_drawn' (p:Program) (m:Machine):UpTo m.world.drawn (mW (ask p m)):=by
 unfold ask
 split
 · split
   · trivial
   · rename_i w h
     have hl:=Z6T p m.gs m.rest w
     split
     · rename_i m2 h2
       rw [h2] at hl
       exact (Z3U p m2).mono (Nat.le_trans (Z10 h) hl)
     · exact hl.mono (Z10 h)
   · rename_i h
     exact (Z3U p { m with world:=_ }).mono (Z10 h)
 · exact Z3U p m
theorem ZbV (p:Program) (m:Machine):UpTo m.world.drawn (mW (move p m)):=by
 unfold move
 repeat' first
  | exact Nat.le_refl _
  | trivial
  | exact ask_drawn' p m
  | exact ask_drawn' p { m with rest:=_ }
  | split
theorem ZbW (p:Program) (m:Machine):UpTo m.world.drawn (sW (step p m)):=by
 have h:=ZbV p m
 unfold step stepT
 cases hm:move p m with
 | goroutine m2 i =>
   rw [hm] at h
   exact (ZbU p m2 i true).mono h
 | machine s ops =>
   rw [hm] at h
   exact h
theorem Z9A {P:Program} {m m':Machine} (h:Steps P m m'):m.world.drawn≤m'.world.drawn:=by
 obtain⟨n,hn⟩:=h
 induction n generalizing m with
 | zero=>rw [runN] at hn; cases hn; exact Nat.le_refl _
 | succ n ih =>
   rw [runN] at hn
   have hs:=ZbW P m
   split at hn
   · rename_i m1 h1
     rw [h1] at hs
     exact Nat.le_trans hs (ih hn)
   · rename_i e he
     cases hst:step P m with
     | next m1=>exact absurd hst (he m1)
     | ended o w=>rw [hst] at hn; cases hn
theorem Z9B {P:Program} {f:FuncId} {args:Array Value} {w:World} {R:Ending→World→Prop} (h:Calls P f args w R):Calls P f args w fun e w'=>R e w'∧∀ v,e=.returned v→w.drawn≤w'.drawn:=by
 intro cs
 obtain⟨e,w',fr,hR,hc,hf,hl⟩:=h cs
 refine⟨e,w',fr,⟨hR,?_⟩,hc,hf,hl⟩
 rintro v rfl
 exact Z9A (m:=lone (Frame.enter P f args .normal) cs w) (m':=lone fr cs w') hc
end Go.Proofs.YtcgaocnjebhimaaGreatDoor
namespace Go.Proofs.YtcgaocnjebhimaaGreatDoor
open Go.RowKit
attribute [local irreducible] aw opsK dK
theorem Z3z {size n:Nat} {e:Env} {h:Heap} {a:Operand} {l:List PV} (ha:ev e a=some (.cp l)) (hl:l.length=size):dEval (.load true size a) e h n=some (.agg l,h):=by
 subst hl
 simp [dEval,ha,cutAt]
theorem Ze {α:Type} {enc:α→List PV} (hp:∀ x,pureL (enc x)) (xs:List α):pureLL (xs.map enc):=Z2B _ _ fun x _=>hp x
theorem Z4p {α:Type} {p:α→Bool} {xs:List α} {i:Nat} (hi:i<xs.length) (h:(xs.take i).any p=false) (hx:p xs[i]=false):(xs.take (i+1)).any p=false:=by
 rw [List.take_add_one,List.getElem?_eq_getElem hi,List.any_append,h]
 simp [hx]
def idxI {α:Type} (p:α→Bool):List α→Int
 | [] => -1
 | x :: xs=>if p x then 0 else (if idxI p xs<0 then -1 else idxI p xs+1)
theorem Z2f {α:Type} {p:α→Bool}:∀ {xs:List α},xs.any p=false→idxI p xs = -1
 | [],_=>rfl
 | x :: xs, h => by
   rw [List.any_cons,Bool.or_eq_false_iff] at h
   simp [idxI,h.1,Z2f h.2]
theorem Z4R {α:Type} {p:α→Bool}:∀ {xs:List α} {i:Nat} (hi:i<xs.length),(xs.take i).any p=false→p xs[i]=true→idxI p xs=(i:Int)
 | x :: xs,0,_,_,hx=>by simp only [List.getElem_cons_zero] at hx; simp [idxI,hx]
 | x :: xs, i + 1, hi, h, hx => by
   rw [List.take_succ_cons,List.any_cons,Bool.or_eq_false_iff] at h
   have:=Z4R (p:=p) (xs:=xs) (i:=i) (by simpa using hi) h.2 (by simpa using hx)
   simp only [idxI,h.1,this]
   have h3:¬ ((i:Int)<0):=by omega
   simp [h3]
theorem Z5U {α:Type} {p:α→Bool}:∀ {xs:List α},xs.any p=true→0≤idxI p xs
 | [],h=>by cases h
 | x :: xs, h => by
   rw [List.any_cons,Bool.or_eq_true] at h
   unfold idxI
   by_cases hx:p x=true
   · rw [if_pos hx]; exact Int.le_refl 0
   · have := Z5U (h.resolve_left hx)
     rw [if_neg hx,if_neg (by omega)]
     omega
theorem Z5p {α:Type} {p:α→Bool} {xs:List α}:decide (0≤idxI p xs)=xs.any p:=by
 cases h:xs.any p
 · rw [Z2f h]; rfl
 · exact decide_eq_true (Z5U h)
set_option maxHeartbeats 1000000 in
theorem Z5V {α:Type} (xs:List α) (enc:α→List PV) (fl:Bool) (g:Nat) (caps:List PV) (p:α→Bool) (hl:∀ x,(enc x).length=2) (hp:∀ x,pureL (enc x)) (hc:pureL caps) (hg:∀ x∈xs,Spec Tryz.prog g (.agg (enc x) :: caps) (· = .val (.bool (p x)))) :
 Spec Tryz.prog 88 [.vec (xs.map enc) fl,.fn g caps] (· = .val (.int .i64 (idxI p xs))):=by
 refine Z2 ok88 (Nat.le_of_ble_eq_true rfl) fun C hC=>?_
 refine Z3M (k:=0) rfl fun hmax=>?_
 have hnl:(xs.map enc).length=xs.length:=by simp
 have hlm:xs.length≤maxVec:=by simpa using hmax
 refine go ?_
 refine Z3u (fun i=>i≤xs.length∧(xs.take i).any p=false) (fun i=>xs.length-i) (fun i => [(0,.vec (xs.map enc) fl),(1,.fn g caps),(7,.val (.int .i64 (xs.length:Int))),(8,.val (.int .i64 (i:Int)))]) 0 ⟨Nat.zero_le _,rfl⟩ ⟨rfl,rfl,by rw [← hnl]; rfl,rfl,trivial⟩ ?_
 rintro i ⟨hi,hno⟩
 have hinc:IntKind.i64.wrap ((i:Int)+1)=((i+1:Nat):Int):=IntWalk.i64_in _ ⟨by omega,by simp only [maxVec] at hlm; omega⟩
 (refine go ?_;repeat' (apply B<;>intro hb<;>try cases hb))
 · have hil : i < xs.length := by simpa using hb
   refine Z3 (Zn (xs:=xs) rfl rfl i rfl hil (hl _)) rfl rfl ?_
   refine Z3 (Z3z rfl (hl _)) rfl rfl ?_
   refine Z4 (hg _ (List.getElem_mem hil)) rfl rfl rfl ⟨hp _,hc⟩ rfl ?_
   refine Z1t ?_
   refine Z4M rfl (fun hx=>?_) (fun hx=>?_)
   · refine go ?_
     exact Z6 rfl trivial (by rw [Z4R hil hno hx])
   · (refine go ?_;repeat' (apply B<;>intro hb<;>try cases hb))
     exact⟨i+1,⟨by omega,Z4p hil hno hx⟩,by omega,rfl,rfl,⟨rfl,rfl,rfl,by show some _=some _; rw [hinc],trivial⟩⟩
 · have hil : i = xs.length := by simp at hb; omega
   subst hil
   rw [List.take_length] at hno
   exact Z6 rfl trivial (by rw [Z2f hno]; rfl)
theorem Z1J {α:Type} (xs:List α) (enc:α→List PV) (fl:Bool) (g:Nat) (caps:List PV) (p:α→Bool) (hl:∀ x,(enc x).length=2) (hp:∀ x,pureL (enc x)) (hc:pureL caps) (hg:∀ x∈xs,Spec Tryz.prog g (.agg (enc x) :: caps) (· = .val (.bool (p x)))) :
 Spec Tryz.prog 44 [.vec (xs.map enc) fl,.fn g caps] (· = .val (.bool (xs.any p))):=by
 refine Z2 ok44 (Nat.le_of_ble_eq_true rfl) fun C hC=>?_
 refine go ?_
 refine Z4 (Z5V xs enc fl g caps p hl hp hc hg) rfl rfl rfl ⟨Ze hp xs,hc,trivial⟩ rfl ?_
 refine Z3 (Z9 rfl (Z5p (p:=p) (xs:=xs))) rfl rfl ?_
 (refine go ?_;repeat' (apply B<;>intro hb<;>try cases hb))
 all_goals exact Z6 rfl trivial (by rw [hb])
end Go.Proofs.YtcgaocnjebhimaaGreatDoor
namespace Go.Proofs.YtcgaocnjebhimaaGreatDoor
open Go.RowKit
section
variable {P:Program} {C:Ctx} {e:Env} {h:Heap} {F:Froz} {φ:Locs} {a:Act} {w:World}
theorem St'.renF {n:Nat} (s:St' C (fun i=>n≤i) e h F φ a w) (ρ:Nat→Nat) {n':Nat} {e':Env} {h':Heap} (he:∀ k p,e' k=some p→∃ p0,e k=some p0∧RenP ρ (fun i=>i<n') p0 p) (hh:∀ k b,h' k=some b→k<n'∧∃ b0,h (ρ k)=some b0∧RenB ρ (fun i=>i<n') b0 b)
 (hinj:∀ k k' b b',h' k=some b→h' k'=some b'→ρ k=ρ k'→k=k') {m:Nat} (hdom:C.dom m) (hm:m≤n') (hρ:∀ i,i<m→ρ i=i):∃ φ',St' C (fun i=>n'≤i) e' h' F φ' a w:=by
 let φ':Locs:=fun i=>if i<n' then φ (ρ i) else none
 have hφ:∀ i x,i<n'→φ (ρ i)=some x→φ' i=some x:=fun i x hi hx=>by simp only [φ',hi,if_true]; exact hx
 refine⟨φ',{ nt:=s.nt,glob:=s.glob,marks:=s.marks,loc0:=fun i x hx=>?_,free:=fun i hi=>?_,env:=fun k p hp=>?_,froz:=s.froz,ext:=s.ext,old:=s.old,os:=s.os,tape:=s.tape,output:=s.output,size:=s.size,kept:=s.kept,live:=fun i b hb=>?_,sep:=?_ }⟩
 · have : ¬ i < n' := by omega
   simp only [φ',this,if_false]
 · obtain ⟨p0, h0, hr⟩ := he _ _ hp
   exact⟨(s.env k p0 h0).1,hr.rep hφ (s.env k p0 h0).2⟩
 · by_cases him : i < m
   · exact hφ i x (by omega) (by rw [hρ i him]; exact s.loc0 i x hx)
   · rw [hdom i (by omega)] at hx; cases hx
 · obtain ⟨hi, b0, h0, hr⟩ := hh _ _ hb
   obtain⟨loc,h1,h2,h3⟩:=s.live _ b0 h0
   refine⟨loc,hφ i loc hi h1,?_,h3⟩
   cases hr with
   | same hp=>exact h2.names hp
   | gen _ hz he hl hcl hrp =>
     have h2:=h2.cellsB (by rw [he]; exact hz)
     refine .inl ⟨by rw [← he]; exact h2.esz,h2.pos,by rw [← hl]; exact h2.len,h2.cap,h2.max,fun c hc=>?_,fun hc=>?_⟩
     · obtain ⟨k, hk, rfl⟩ := List.getElem_of_mem hc
       have e1:b.elems[k]=b.elems.getD k []:=by simp [List.getD_eq_getElem?_getD,hk]
       rw [e1,← hcl k hk]
       exact h2.el _ (by have hk' : k < b0.elems.length := by rw [hl]; exact hk
                         simp [List.getD_eq_getElem?_getD,hk'])
     · obtain ⟨x, hx, hs, cells, t, hg, hsz, hrep⟩ := h2.room hc
       refine⟨x,hx,hs,cells,t,hg,hsz,fun i j hi hj=>⟨(hrep i j hi hj).1,?_⟩⟩
       exact (hrp i j (by rw [← hl,h2.len]; exact hi) (by rw [← he,h2.esz]; exact hj)).rep hφ (hrep i j hi hj).2
 · intro i j bi bj li lj k hi hj hli hlj hki hkj
   obtain⟨hin,b0,h0,_⟩:=hh _ _ hi
   obtain⟨hjn,c0,g0,_⟩:=hh _ _ hj
   have hli':φ (ρ i)=some li:=by simpa only [φ',show i<n' from hin,if_true] using hli
   have hlj':φ (ρ j)=some lj:=by simpa only [φ',show j<n' from hjn,if_true] using hlj
   exact hinj _ _ _ _ hi hj (s.sep _ _ b0 c0 li lj k h0 g0 hli' hlj' hki hkj)
theorem ZeV (ρ:Nat→Nat) {n n':Nat} {e':Env} {h':Heap} (he:∀ k p,e' k=some p→∃ p0,e k=some p0∧RenP ρ (fun i=>i<n') p0 p) (hh:∀ k b,h' k=some b→k<n'∧∃ b0,h (ρ k)=some b0∧RenB ρ (fun i=>i<n') b0 b)
 (hinj:∀ k k' b b',h' k=some b→h' k'=some b'→ρ k=ρ k'→k=k') {m:Nat} (hdom:C.dom m) (hm:m≤n') (hρ:∀ i,i<m→ρ i=i):Sub C n e h n' e' h':=by
 rintro a w ⟨F,φ,s⟩
 obtain⟨φ',s'⟩:=s.renF ρ he hh hinj hdom hm hρ
 exact⟨F,φ',s'⟩
def tabH (h:Heap) (D n:Nat) (f:Nat→PV) (K:Nat) (g:Nat→Bx):Heap:=fun k =>
 bif Nat.beq k D then some ⟨1,(List.range 64).map fun j => [f j]⟩ else bif Nat.ble n k&&Nat.blt k (n+K) then some (g (k-n)) else h k
def ownsTo (n i:Nat) (j:Nat):PV:=if j<i then .own (n+j) else .vec [] true
theorem Z2l (h:Heap) (D n:Nat) (f:Nat→PV) (K:Nat) (g:Nat→Bx):tabH h D n f K g D=some ⟨1,(List.range 64).map fun j => [f j]⟩:=by
 unfold tabH
 rw [show Nat.beq D D=true from Nat.beq_refl D]; rfl
theorem Z25 (h:Heap) {D n:Nat} (hD:D<n) (f:Nat→PV) {K:Nat} (g:Nat→Bx) {j:Nat} (hj:j<K):tabH h D n f K g (n+j)=some (g j):=by
 unfold tabH
 have e1:Nat.beq (n+j) D=false:=Bool.eq_false_iff.2 fun hb=>by have:=Nat.eq_of_beq_eq_true hb; omega
 have e2:Nat.ble n (n+j)=true:=Eq.mpr Nat.ble_eq (by omega)
 have e3:Nat.blt (n+j) (n+K)=true:=Eq.mpr Nat.blt_eq (by omega)
 rw [e1,e2,e3]
 simp
theorem Z26 (h:Heap) {D n:Nat} (f:Nat→PV) {K:Nat} (g:Nat→Bx) {k:Nat} (hk:k≠D) (hn:k<n ∨ n+K≤k):tabH h D n f K g k=h k:=by
 unfold tabH
 have e1:Nat.beq k D=false:=Bool.eq_false_iff.2 fun hb=>hk (Nat.eq_of_beq_eq_true hb)
 rw [e1]
 rcases hn with hn|hn
 · have e2 : Nat.ble n k = false := Bool.eq_false_iff.2 fun hb => by have := Nat.le_of_ble_eq_true hb; omega
   rw [e2]; rfl
 · have e2 : Nat.blt k (n + K) = false := Bool.eq_false_iff.2 fun hb => by have := Eq.mp Nat.blt_eq hb; omega
   rw [e2]; simp
theorem Z6W {h:Heap} {D n:Nat} (hD:D<n) {f:Nat→PV} {K:Nat} {g:Nat→Bx} {k:Nat} {b:Bx} (hk:tabH h D n f K g k=some b):(k=D∧b=⟨1,(List.range 64).map fun j => [f j]⟩) ∨ (∃ j,j<K∧k=n+j∧b=g j) ∨ (k≠D∧(k<n ∨ n+K≤k)∧h k=some b):=by
 by_cases h1:k=D
 · subst h1; rw [Z2l] at hk; cases hk; exact .inl ⟨rfl,rfl⟩
 · by_cases h2 : n ≤ k ∧ k < n + K
   · obtain ⟨j, rfl⟩ : ∃ j, k = n + j := ⟨k - n, by omega⟩
     rw [Z25 h hD f g (by omega)] at hk
     cases hk
     exact .inr (.inl ⟨j,by omega,rfl,rfl⟩)
   · have h3 : k < n ∨ n + K ≤ k := by omega
     rw [Z26 h f g h1 h3] at hk
     exact .inr (.inr ⟨h1,h3,hk⟩)
theorem Z4q {f:Nat→List PV} {i:Nat} (r:List PV) (hi:i<64):((List.range 64).map f).set i r=(List.range 64).map fun j=>if j=i then r else f j:=by
 apply List.ext_getElem?
 intro j
 rw [List.getElem?_set,List.length_map,List.length_range,List.getElem?_map,List.getElem?_map]
 by_cases hj:j<64
 · rw [List.getElem?_range hj]
   by_cases e:i=j
   · subst e; simp [hi]
   · rw [if_neg e]; simp [Ne.symm e]
 · rw [List.getElem?_eq_none (by simpa using hj)]
   by_cases e:i=j
   · subst e; exact absurd hi hj
   · rw [if_neg e]; rfl
theorem Z17 {f:Nat→List PV} {i:Nat} (hi:i<64):((List.range 64).map f).getD i []=f i:=by
 rw [List.getD_eq_getElem?_getD,List.getElem?_map,List.getElem?_range hi]; rfl
theorem Zdo {h:Heap} {D n i:Nat} (hD:D<n) (hi:i<64) (esz:Nat) :
 ((tabH h D n (ownsTo n i) i (fun _=>⟨esz,[]⟩)).upd D ⟨1,((List.range 64).map fun j => [ownsTo n i j]).set i ((((List.range 64).map fun j => [ownsTo n i j]).getD i []).set 0 (.own (n+i)))⟩).upd (n+i) ⟨esz,[]⟩=tabH h D n (ownsTo n (i+1)) (i+1) (fun _=>⟨esz,[]⟩):=by
 funext k
 rw [Z17 hi,Z4q _ hi]
 by_cases h1:k=n+i
 · subst h1
   rw [Heap.upd_same,Z25 _ hD _ _ (Nat.lt_succ_self i)]
 · rw [Heap.upd_ne _ _ h1]
   by_cases h2:k=D
   · subst h2
     rw [Heap.upd_same,Z2l]
     refine congrArg (fun l=>some (Bx.mk 1 l)) (List.map_congr_left fun j hj=>?_)
     unfold ownsTo
     by_cases hji:j=i
     · subst hji; rw [if_pos rfl,if_pos (Nat.lt_succ_self _)]; rfl
     · rw [if_neg hji]
       by_cases hlt:j<i
       · rw [if_pos hlt,if_pos (by omega)]
       · rw [if_neg hlt,if_neg (by omega)]
   · rw [Heap.upd_ne _ _ h2]
     by_cases h3:n≤k∧k<n+i
     · obtain ⟨j, rfl⟩ : ∃ j, k = n + j := ⟨k - n, by omega⟩
       rw [Z25 _ hD _ _ (by omega:j<i),Z25 _ hD _ _ (by omega:j<i+1)]
     · rw [Z26 _ _ _ h2 (by omega),Z26 _ _ _ h2 (by omega)]
theorem ZbZ {n D:Nat} (hD:D<n) (hb:h D=some ⟨1,List.replicate 64 [.vec [] true]⟩) (esz:Nat) (hp:0<esz):Sub C n e h (n+64) e (tabH h D n (fun j=>.own (n+j)) 64 (fun _=>⟨esz,[]⟩)):=by
 have key:∀ i,i≤64→Sub C n e h (n+i) e (tabH h D n (ownsTo n i) i (fun _=>⟨esz,[]⟩)):=by
  intro i
  induction i with
  | zero =>
    intro _
    have e0:tabH h D n (ownsTo n 0) 0 (fun _=>⟨esz,[]⟩)=h:=by
     funext k
     by_cases h2:k=D
     · subst h2
       rw [Z2l,hb]
       have:∀ l:List Nat,(l.map fun j => [ownsTo n 0 j])=List.replicate l.length [PV.vec [] true]:=by
        intro l
        induction l with
        | nil=>rfl
        | cons x l ih=>rw [List.map_cons,ih]; rfl
       rw [this,List.length_range]
     · exact Z26 _ _ _ h2 (by omega)
    rw [e0]
    exact Z7r
  | succ i ih =>
    intro hi
    have hi':i<64:=by omega
    refine Z5F (ih (by omega)) ?_
    have e1:=Zdo (h:=h) hD hi' esz
    rw [← e1]
    refine Z5M (id:=D) (b:=⟨1,(List.range 64).map fun j => [ownsTo n i j]⟩) (i0:=i) (j0:=0) (Z2l _ _ _ _ _ _) (by simpa using hi') (by rw [Z17 hi']; exact Nat.zero_lt_one) ?_ esz hp (by omega)
    rw [Z17 hi']
    show (ownsTo n i i)=_
    unfold ownsTo
    rw [if_neg (Nat.lt_irrefl i)]
 have e2:tabH h D n (ownsTo n 64) 64 (fun _=>⟨esz,[]⟩)=tabH h D n (fun j=>.own (n+j)) 64 (fun _=>⟨esz,[]⟩):=by
  unfold tabH
  have:((List.range 64).map fun j => [ownsTo n 64 j])=(List.range 64).map fun j => [PV.own (n+j)]:=List.map_congr_left fun j hj=>by
   unfold ownsTo
   rw [if_pos (List.mem_range.1 hj)]
  rw [this]
 rw [← e2]
 exact key 64 (Nat.le_refl _)
end
noncomputable def jun (l:List Pr) (r:Nat):Nat:=bel l r ||| 2 ^ r
theorem Z9I {l:List Pr} (hl:Small l) (r b:Nat):(jun l r).testBit b=true↔Up l r b ∨ b=r:=by
 unfold jun
 rw [Nat.testBit_or,Bool.or_eq_true,Zdg hl,Nat.testBit_two_pow]
 simp only [decide_eq_true_eq]
 exact⟨fun h=>h.imp id Eq.symm,fun h=>h.imp id Eq.symm⟩
theorem ZaV (l:List Pr) {r:Nat} (hr:r<64):jun l r<18446744073709551616:=Z1Z (Zdh l r) (ZN hr)
def stepJ (l:List Pr) (s:Nat):Nat:=l.foldl (fun n x=>if s.testBit x.1=true then n ||| 2 ^ x.2 else n) s
theorem Z6X (s b:Nat):∀ (l:List Pr) (n:Nat),(l.foldl (fun n x=>if s.testBit x.1=true then n ||| 2 ^ x.2 else n) n).testBit b=true↔n.testBit b=true ∨ ∃ x∈l,s.testBit x.1=true∧x.2=b
 | [],n=>by simp
 | x :: l, n => by
   rw [List.foldl_cons,Z6X s b l]
   by_cases hx:s.testBit x.1=true
   · rw [if_pos hx, Nat.testBit_or, Bool.or_eq_true, Nat.testBit_two_pow]
     simp only [decide_eq_true_eq]
     constructor
     · rintro ((h | h) | ⟨y, hy, h⟩)
       · exact .inl h
       · exact .inr ⟨x,List.mem_cons_self ..,hx,h⟩
       · exact .inr ⟨y,List.mem_cons_of_mem _ hy,h⟩
     · rintro (h | ⟨y, hy, h1, h2⟩)
       · exact .inl (.inl h)
       · rcases List.mem_cons.1 hy with rfl | hy
         · exact .inl (.inr h2)
         · exact .inr ⟨y,hy,h1,h2⟩
   · rw [if_neg hx]
     constructor
     · rintro (h | ⟨y, hy, h⟩)
       · exact .inl h
       · exact .inr ⟨y,List.mem_cons_of_mem _ hy,h⟩
     · rintro (h | ⟨y, hy, h1, h2⟩)
       · exact .inl h
       · rcases List.mem_cons.1 hy with rfl | hy
         · exact absurd h1 hx
         · exact .inr ⟨y,hy,h1,h2⟩
theorem Z4s (l:List Pr) (s b:Nat):(stepJ l s).testBit b=true↔s.testBit b=true ∨ ∃ x∈l,s.testBit x.1=true∧x.2=b:=Z6X s b l s
theorem Zc2 {l:List Pr} {i:Nat} (hi:i<l.length) (s n:Nat):(l.take (i+1)).foldl (fun n x=>if s.testBit x.1=true then n ||| 2 ^ x.2 else n) n=if s.testBit l[i].1=true then (l.take i).foldl (fun n x=>if s.testBit x.1=true then n ||| 2 ^ x.2 else n) n ||| 2 ^ l[i].2 else (l.take i).foldl (fun n x=>if s.testBit x.1=true then n ||| 2 ^ x.2 else n) n:=by
 have e:l.take (i+1)=l.take i ++ [l[i]]:=by rw [List.take_add_one,List.getElem?_eq_getElem hi]; rfl
 rw [e,List.foldl_append]; rfl
theorem Z8w {l:List Pr} (hl:Small l) (s:Nat):∀ (n:Nat),n<18446744073709551616→l.foldl (fun n x=>if s.testBit x.1=true then n ||| 2 ^ x.2 else n) n<18446744073709551616:=by
 induction l with
 | nil=>exact fun n hn=>hn
 | cons x l ih =>
   intro n hn
   rw [List.foldl_cons]
   refine ih (fun p hp=>hl p (List.mem_cons_of_mem _ hp)) _ ?_
   split
   · exact Z1Z hn (ZN (hl x (List.mem_cons_self ..)).2)
   · exact hn
theorem Zf3 {l:List Pr} (hl:Small l) {s:Nat} (hs:s<18446744073709551616):stepJ l s<18446744073709551616:=Z8w hl s s hs
structure Reach (l:List Pr) (r s:Nat):Prop where
 lt:s<18446744073709551616
 self:s.testBit r=true
 sound:∀ b,s.testBit b=true→Up l r b ∨ b=r
theorem Reach.init {l:List Pr} {r:Nat} (hr:r<64):Reach l r (2 ^ r):=⟨ZN hr,Nat.testBit_two_pow_self,fun b hb=>by rw [Nat.testBit_two_pow] at hb; exact .inr (of_decide_eq_true hb).symm⟩
theorem Reach.step {l:List Pr} (hl:Small l) {r s:Nat} (h:Reach l r s):Reach l r (stepJ l s):=by
 refine⟨Zf3 hl h.lt,(Z4s l s r).2 (.inl h.self),fun b hb=>?_⟩
 rcases (Z4s l s b).1 hb with hb|⟨x,hx,h1,rfl⟩
 · exact h.sound b hb
 · rcases h.sound _ h1 with h2 | h2
   · exact .inl (.more h2 hx)
   · refine .inl (.one ?_)
     rw [← h2]; exact hx
theorem Reach.done {l:List Pr} (hl:Small l) {r s:Nat} (hr:r<64) (h:Reach l r s) (he:stepJ l s=s):s=jun l r:=by
 refine eq64 h.lt (ZaV l hr) fun b hb=>?_
 rw [Bool.eq_iff_iff,Z9I hl]
 refine⟨h.sound b,?_⟩
 have hcl:∀ a b,s.testBit a=true→(a,b)∈l→s.testBit b=true:=fun a b ha hab=>by
  rw [← he]
  exact (Z4s l s b).2 (.inr ⟨(a,b),hab,ha,rfl⟩)
 rintro (hu|rfl)
 · induction hu with
   | one k=>exact hcl _ _ h.self k
   | more _ k ih=>exact hcl _ _ (ih (hl _ k).1) k
 · exact h.self
theorem Z9J (l:List Pr) (s:Nat) (h:stepJ l s≠s):s<stepJ l s:=by
 have hle:s≤stepJ l s:=by
  have e:s ||| stepJ l s=stepJ l s:=by
   apply Nat.eq_of_testBit_eq
   intro i
   rw [Nat.testBit_or]
   cases hi:s.testBit i with
   | true=>rw [(Z4s l s i).2 (.inl hi)]; rfl
   | false=>rw [Bool.false_or]
  rw [← e]
  exact Nat.left_le_or
 omega
noncomputable def cloTo (l:List Pr) (s k:Nat):Nat:=((List.range k).filter fun i=>s.testBit i).foldl (fun o r=>if 1≤r then o ||| jun l r else o) 0
noncomputable def clo (l:List Pr) (s:Nat):Nat:=cloTo l s 64
theorem Zdv (l:List Pr) (s:Nat):clo l s=(mem s).foldl (fun o r=>if 1≤r then o ||| jun l r else o) 0:=rfl
theorem Z6Y (l:List Pr) (s k:Nat):cloTo l s (k+1)=if s.testBit k=true∧1≤k then cloTo l s k ||| jun l k else cloTo l s k:=by
 unfold cloTo
 rw [List.range_succ,List.filter_append,List.foldl_append]
 by_cases h:s.testBit k=true
 · rw [List.filter_cons_of_pos (by simpa using h)]
   by_cases h1:1≤k
   · simp [h,h1]
   · simp [h,h1]
 · rw [List.filter_cons_of_neg (by simpa using h)]
   simp [h]
theorem Zdw (l:List Pr) (s:Nat):cloTo l s 1=0:=by
 rw [Z6Y,if_neg (by omega)]; rfl
theorem Z9K (l:List Pr):∀ (rs:List Nat) (o:Nat),(∀ r∈rs,r<64)→o<18446744073709551616→rs.foldl (fun o r=>if 1≤r then o ||| jun l r else o) o<18446744073709551616
 | [],o,_,ho=>ho
 | r :: rs, o, h, ho => by
   rw [List.foldl_cons]
   refine Z9K l rs _ (fun x hx=>h x (List.mem_cons_of_mem _ hx)) ?_
   split
   · exact Z1Z ho (ZaV l (h r (List.mem_cons_self ..)))
   · exact ho
theorem ZaW (l:List Pr) (s:Nat) {k:Nat} (hk:k≤64):cloTo l s k<18446744073709551616:=Z9K l _ 0 (fun r hr=>by have:=List.mem_range.1 (List.mem_filter.1 hr).1;omega) (by decide)
theorem Z8x (l:List Pr) (s:Nat):clo l s<18446744073709551616:=ZaW l s (Nat.le_refl _)
theorem ZaX (l:List Pr) (b:Nat):∀ (rs:List Nat) (o:Nat),(rs.foldl (fun o r=>if 1≤r then o ||| jun l r else o) o).testBit b=true↔o.testBit b=true ∨ ∃ r∈rs,1≤r∧(jun l r).testBit b=true
 | [],o=>by simp
 | r :: rs, o => by
   rw [List.foldl_cons,ZaX l b rs]
   by_cases h1:1≤r
   · rw [if_pos h1, Nat.testBit_or, Bool.or_eq_true]
     constructor
     · rintro ((h | h) | ⟨x, hx, h⟩)
       · exact .inl h
       · exact .inr ⟨r,List.mem_cons_self ..,h1,h⟩
       · exact .inr ⟨x,List.mem_cons_of_mem _ hx,h⟩
     · rintro (h | ⟨x, hx, h2, h3⟩)
       · exact .inl (.inl h)
       · rcases List.mem_cons.1 hx with rfl | hx
         · exact .inl (.inr h3)
         · exact .inr ⟨x,hx,h2,h3⟩
   · rw [if_neg h1]
     constructor
     · rintro (h | ⟨x, hx, h⟩)
       · exact .inl h
       · exact .inr ⟨x,List.mem_cons_of_mem _ hx,h⟩
     · rintro (h | ⟨x, hx, h2, h3⟩)
       · exact .inl h
       · rcases List.mem_cons.1 hx with rfl | hx
         · exact absurd h2 h1
         · exact .inr ⟨x,hx,h2,h3⟩
theorem Zgl {l:List Pr} (s b:Nat) (hs:s<18446744073709551616):(clo l s).testBit b=true↔∃ r,s.testBit r=true∧1≤r∧(jun l r).testBit b=true:=by
 rw [Zdv,ZaX]
 constructor
 · rintro (h | ⟨r, hr, h⟩)
   · simp at h
   · exact⟨r,(Z1d hs).1 hr,h⟩
 · rintro ⟨r, hr, h⟩
   exact .inr ⟨r,(Z1d hs).2 hr,h⟩
structure GoodL (l:List Pr):Prop where
 asc:l.Pairwise fun p q=>p.1<q.1 ∨ p.1=q.1∧p.2<q.2
 role:∀ p∈l,1≤p.1∧p.1≤6∧1≤p.2∧p.2≤6∧p.1≠p.2
 acy:Acy l
theorem GoodL.small {l:List Pr} (h:GoodL l):Small l:=fun p hp=>by have:=h.role p hp; omega
end Go.Proofs.YtcgaocnjebhimaaGreatDoor
