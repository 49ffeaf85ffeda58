/-
  Merged from the texts that this claim's theorem needs, part 3 of 7. No statement of the seat is proved here.
-/
import Derived.IntWalk
import Derived.KernelRfl
import Derived.LaidMore
import Derived.OpenShut
import Derived.ProofKit
import Derived.Test.YtmnbbggaoembeaaGreatDoorChecked
import Derived.Test.YtmnbbggaoembeaaGreatDoorRows
import Derived.WalkSmall
import Derived.Test.YtmnbbggaoembeaaGreatDoorMq1
set_option linter.unusedSimpArgs false
set_option linter.unusedVariables false
set_option linter.unusedSectionVars false
set_option maxRecDepth 100000
set_option maxHeartbeats 16000000
namespace Go.Proofs.YtmnbbggaoembeaaGreatDoor
section
open Go.ChangeShapes Go.WideShapes Go.ChangeAt Go.RowKit
theorem own:ownKnob Tryz.prog.godebug=none:=by kernel_rfl
theorem laidOut:laidOutB Tryz.prog=true:=by kernel_rfl
def parsOk (P:Program) (ts:List TypeId):Bool:=ts.all fun t=>P.readableRec t&&decide (t<P.types.size)
def inG (G ts:List TypeId):Bool:=ts.all fun t=>G.contains t
theorem Zjv {G ts:List TypeId} (h:inG G ts=true):∀ t∈ts,G.contains t=true:=fun t ht=>List.all_eq_true.1 h t ht
theorem ZeJ {P:Program} {ts:List TypeId} (h:parsOk P ts=true):∀ t∈ts,P.readableRec t=true/\t<P.types.size:=fun t ht=>by
 have:=List.all_eq_true.1 h t ht;simpa using this
abbrev laidV : List (String × DataW Unit) := [("math/bits.deBruijn64tab",Rows.laid_math_bits_deBruijn64tab),("arbac/keccak.rounds",Rows.laid_arbac_keccak_rounds),("arbac/keccak.turns",Rows.laid_arbac_keccak_turns)]
theorem ZgF (os:Os) (args:Array Value):laidMetH Tryz.prog laidV ((World.doorLaid Tryz.prog 400 os).forCall (fun _ _=>0) ⟨#[],args,[]⟩).memory :=
 laidMetH_of_parts3 (fuel:=8) (laidMet_of_run' 8 (by kernel_rfl) (by kernel_rfl)) (by kernel_rfl) (by kernel_rfl)
theorem Zdk:(Rows.laid_math_bits_deBruijn64tab:DataW Unit)=.agg (tzTab.map fun x=>.lit (.int .u8 x)):=rfl
theorem ZgG {W:World} (h:laidMetH Tryz.prog laidV W):∀ (j:Nat) (v:Value),(tzTab.map fun x=>Value.int .u8 x)[j]?=some v->W.cell? ⟨0,j,none⟩=some v:=by
 rw [MakeChecks.laidMetH_plain _ _ _ (by kernel_rfl)] at h;obtain⟨ps,⟨g0,t0,cs,f0,p0,q0,hg0,ht0,hv0,hd0,_,_⟩,_,_⟩:=h;obtain rfl := Option.some.inj ((show Tryz.prog.globalNamed "math/bits.deBruijn64tab" = some 0 by kernel_rfl).symm.trans hg0)
 obtain rfl:=Option.some.inj ((show (Tryz.prog.globals[0]?).map (·.type)=some 229 by kernel_rfl).symm.trans ht0);obtain⟨xs,m,rfl,hx,hlen,hn,hel⟩:=DataW.trod_array (show Tryz.prog.underlying 229=some (.array 64 5) by kernel_rfl) hd0;have c1:Tryz.prog.cellsOf 5=1:=by kernel_rfl
 simp only [Prod.mk.injEq] at hx;have hx1:tzTab.map (fun x=>(DataW.lit (.int .u8 x):DataW Unit))=xs.map (·.1):=by
  have:=hx.1;rw [Zdk] at this;simpa using this
 intro j v hv;rw [Y0y] at hv;have hj:j<64:=by
  cases hx:tzTab[j]? with
  | none=>rw [hx] at hv; cases hv
  | some x=>have:=(List.getElem?_eq_some_iff.1 hx).1; exact this
 have hj2:j<tzTab.length:=hj;rw [Y0c hj2] at hv;simp only [Option.map_some,Option.some.injEq] at hv;subst hv;have e1:=congrArg (fun l=>l[j]?) hx1;simp only [Y0y] at e1;rw [Y0c hj2,Y0c (show j<xs.length by omega)] at e1;simp only [Option.map_some,Option.some.injEq] at e1;have e2:=hel j hj;rw [Y0c (show j<xs.length by omega),c1] at e2;obtain⟨k,h1,h2,_⟩:=DataW.trod_int (show Tryz.prog.underlying 5=some (.int .u8) by kernel_rfl) e2;rw [h2] at e1;simp only [DataW.lit.injEq,Lit.int.injEq,true_and] at e1;subst e1;rw [Nat.mul_one] at h1;rw [World.var?_cell hg0 hv0 j];have h3:cs.toList[j]?=(cs.toList.drop j)[0]?:=by simp
 have h4:(cs.toList.drop j)[0]?=((cs.toList.drop j).take 1)[0]?:=by simp
 rw [<- Array.getElem?_toList,h3,h4,h1]
 rfl
theorem Z9g:(Rows.laid_arbac_keccak_rounds:DataW Unit)=.agg (kRounds.map fun x=>.lit (.int .u64 x)):=rfl
theorem Zdl {W:World} (h:laidMetH Tryz.prog laidV W):∀ (j:Nat) (v:Value),(kRounds.map fun x=>Value.int .u64 x)[j]?=some v->W.cell? ⟨1,j,none⟩=some v:=by
 rw [MakeChecks.laidMetH_plain _ _ _ (by kernel_rfl)] at h;obtain⟨ps,⟨_,_,_,_,_,_,_,_,_,_,⟨g0,t0,cs,f0,p0,q0,hg0,ht0,hv0,hd0,_,_⟩,_⟩,_,_⟩:=h;obtain rfl := Option.some.inj ((show Tryz.prog.globalNamed "arbac/keccak.rounds" = some 1 by kernel_rfl).symm.trans hg0)
 obtain rfl:=Option.some.inj ((show (Tryz.prog.globals[1]?).map (·.type)=some 273 by kernel_rfl).symm.trans ht0);obtain⟨xs,m,rfl,hx,hlen,hn,hel⟩:=DataW.trod_array (show Tryz.prog.underlying 273=some (.array 24 36) by kernel_rfl) hd0;have c1:Tryz.prog.cellsOf 36=1:=by kernel_rfl
 simp only [Prod.mk.injEq] at hx;have hx1:kRounds.map (fun x=>(DataW.lit (.int .u64 x):DataW Unit))=xs.map (·.1):=by
  have:=hx.1;rw [Z9g] at this;simpa using this
 intro j v hv;rw [Y0y] at hv;have hj:j<24:=by
  cases hx:kRounds[j]? with
  | none=>rw [hx] at hv; cases hv
  | some x=>have:=(List.getElem?_eq_some_iff.1 hx).1; exact this
 have hj2:j<kRounds.length:=hj;rw [Y0c hj2] at hv;simp only [Option.map_some,Option.some.injEq] at hv;subst hv;have e1:=congrArg (fun l=>l[j]?) hx1;simp only [Y0y] at e1;rw [Y0c hj2,Y0c (show j<xs.length by omega)] at e1;simp only [Option.map_some,Option.some.injEq] at e1;have e2:=hel j hj;rw [Y0c (show j<xs.length by omega),c1] at e2;obtain⟨k,h1,h2,_⟩:=DataW.trod_int (show Tryz.prog.underlying 36=some (.int .u64) by kernel_rfl) e2;rw [h2] at e1;simp only [DataW.lit.injEq,Lit.int.injEq,true_and] at e1;subst e1;rw [Nat.mul_one] at h1;rw [World.var?_cell hg0 hv0 j];have h3:cs.toList[j]?=(cs.toList.drop j)[0]?:=by simp
 have h4:(cs.toList.drop j)[0]?=((cs.toList.drop j).take 1)[0]?:=by simp
 rw [<- Array.getElem?_toList,h3,h4,h1]
 rfl
theorem Zay:(Rows.laid_arbac_keccak_turns:DataW Unit)=.agg (kTurns.map fun x=>.lit (.int .i64 x)):=rfl
theorem ZeK {W:World} (h:laidMetH Tryz.prog laidV W):∀ (j:Nat) (v:Value),(kTurns.map fun x=>Value.int .i64 x)[j]?=some v->W.cell? ⟨2,j,none⟩=some v:=by
 rw [MakeChecks.laidMetH_plain _ _ _ (by kernel_rfl)] at h;obtain⟨ps,⟨_,_,_,_,_,_,_,_,_,_,⟨_,_,_,_,_,_,_,_,_,_,⟨g0,t0,cs,f0,p0,q0,hg0,ht0,hv0,hd0,_,_⟩,_⟩,_⟩,_,_⟩:=h;obtain rfl := Option.some.inj ((show Tryz.prog.globalNamed "arbac/keccak.turns" = some 2 by kernel_rfl).symm.trans hg0)
 obtain rfl:=Option.some.inj ((show (Tryz.prog.globals[2]?).map (·.type)=some 276 by kernel_rfl).symm.trans ht0);obtain⟨xs,m,rfl,hx,hlen,hn,hel⟩:=DataW.trod_array (show Tryz.prog.underlying 276=some (.array 25 3) by kernel_rfl) hd0;have c1:Tryz.prog.cellsOf 3=1:=by kernel_rfl
 simp only [Prod.mk.injEq] at hx;have hx1:kTurns.map (fun x=>(DataW.lit (.int .i64 x):DataW Unit))=xs.map (·.1):=by
  have:=hx.1;rw [Zay] at this;simpa using this
 intro j v hv;rw [Y0y] at hv;have hj:j<25:=by
  cases hx:kTurns[j]? with
  | none=>rw [hx] at hv; cases hv
  | some x=>have:=(List.getElem?_eq_some_iff.1 hx).1; exact this
 have hj2:j<kTurns.length:=hj;rw [Y0c hj2] at hv;simp only [Option.map_some,Option.some.injEq] at hv;subst hv;have e1:=congrArg (fun l=>l[j]?) hx1;simp only [Y0y] at e1;rw [Y0c hj2,Y0c (show j<xs.length by omega)] at e1;simp only [Option.map_some,Option.some.injEq] at e1;have e2:=hel j hj;rw [Y0c (show j<xs.length by omega),c1] at e2;obtain⟨k,h1,h2,_⟩:=DataW.trod_int (show Tryz.prog.underlying 3=some (.int .i64) by kernel_rfl) e2;rw [h2] at e1;simp only [DataW.lit.injEq,Lit.int.injEq,true_and] at e1;subst e1;rw [Nat.mul_one] at h1;rw [World.var?_cell hg0 hv0 j];have h3:cs.toList[j]?=(cs.toList.drop j)[0]?:=by simp
 have h4:(cs.toList.drop j)[0]?=((cs.toList.drop j).take 1)[0]?:=by simp
 rw [<- Array.getElem?_toList,h3,h4,h1]
 rfl
theorem ZgH {W:World} (h:laidMetH Tryz.prog laidV W):GlobsIn W:=by
 intro g j v hv;have step:∀ (k:Nat) (l:List Value) (r:List (Nat×List Value)),(globT ((k,l) :: r) g)[j]?=some v->(l[j]?=some v/\g=k) \/ (globT r g)[j]?=some v:=by
  intro k l r hh;unfold globT at hh;cases hb:Nat.beq g k with
  | true=>rw [hb] at hh; exact .inl ⟨hh,Nat.eq_of_beq_eq_true hb⟩
  | false=>rw [hb] at hh; exact .inr hh
 have hv:(globT globL g)[j]?=some v:=hv;unfold globL at hv;rcases step _ _ _ hv with⟨h1,rfl⟩|hv
 . exact ZgG h j v h1
 rcases step _ _ _ hv with⟨h1,rfl⟩|hv
 . exact Zdl h j v h1
 rcases step _ _ _ hv with⟨h1,rfl⟩|hv
 . exact ZeK h j v h1
 simp [globT] at hv
end
section
set_option maxRecDepth 100000
theorem mixed : Tryz.prog.follows .mixedOrders = true := by kernel_rfl
abbrev tT (n : Nat) : Operand := .tmp n
abbrev oO (d : Nat) (p : AOp) : AOper := ⟨some d, p, none⟩
abbrev oT (g d : Nat) (p : AOp) : AOper := ⟨some d, p, some (g, true)⟩
abbrev oF (g d : Nat) (p : AOp) : AOper := ⟨some d, p, some (g, false)⟩
abbrev oM (d a : Nat) : AOper := ⟨some d, .mov (.tmp a), none⟩
abbrev nS : Value := .slice none 0 0
abbrev kI (n : Int) : Operand := .const (.int .i64 n)
abbrev kT : Operand := .const (.bool true)
abbrev kF : Operand := .const (.bool false)
abbrev kC (f : FuncId) (l : List Operand) : AOp := .call (.func f) l
abbrev sQ (x y : ACode) : ACode := .seq x y
abbrev Yl (d n a : Nat) : AOper := ⟨some d, .load true n (.tmp a), none⟩
abbrev Yk (d a : Nat) : AOper := ⟨some d, .load false 1 (.tmp a), none⟩
abbrev Ya (d k a : Nat) : AOper := ⟨some d, .faddr k (.tmp a), none⟩
abbrev Yc (d f : Nat) (l : List Operand) : AOper := ⟨some d, .call (.func f) l, none⟩
abbrev Yb (d a : Nat) : AOper := ⟨some d, .box (.tmp a), none⟩
abbrev Yi (d e a b : Nat) : AOper := ⟨some d, .iaddr e (.tmp a) (.tmp b), none⟩
abbrev Yn (d a : Nat) : AOper := ⟨some d, .len (.tmp a), none⟩
abbrev Yx (d a k : Nat) : AOper := ⟨some d, .extract (.tmp a) k, none⟩
abbrev Ys (n a b : Nat) : AOper := ⟨none, .store n (.tmp a) (.tmp b), none⟩
abbrev Yd (i : Nat) (o : AOper) (m f : Nat) : DItem := ⟨i, o, m, f, false⟩
abbrev Yr (l : List AOper) (x : ACode) : ACode := .seq (.region l) x
abbrev Yg (l : List AOper) : ACode := .region l
abbrev Yu : Value := .int .u8 0
abbrev Y1 : List Value := [Yu,Yu,Yu,Yu,Yu,Yu,Yu,Yu,Yu,Yu,Yu,Yu,Yu,Yu,Yu,Yu,Yu,Yu,Yu,Yu,Yu,Yu,Yu,Yu,Yu,Yu,Yu,Yu,Yu,Yu,Yu,Yu]
abbrev Y2 : List Value := [Yu,Yu,Yu,Yu,Yu,Yu,Yu,Yu,Yu,Yu,Yu,Yu,Yu,Yu,Yu,Yu,Yu,Yu,Yu,Yu,Yu,Yu,Yu,Yu,Yu,Yu,Yu,Yu,Yu,Yu,Yu,Yu,.bool false,.slice none 0 0,.slice none 0 0]
abbrev Yv (n : Nat) : PV := .val (.int .i64 (n : Int))
abbrev Y3 : List Nat := [0,0,0,0,0,0,0,0,0,0,0,0,0,0,0,0,0,0,0,0,0,0,0,0,0,0,0,0,0,0,0,0]
theorem Yf {P : Program} {f nt : Nat} {fn : Func} {ac : ACode} {rs : List ARes} (hf : P.funcs[f]? = some fn) (hnt : fn.ntmps = nt) (hm : P.follows .mixedOrders = true) (hn : (fn.name == "runtime.NumGoroutine") = false := by kernel_rfl) (hc : codeOf P nt fn.body = some ac := by kernel_rfl) (hr : cRess P fn.results.toList = some rs := by kernel_rfl) : FnOk P f nt ac rs := Z8 hm hf hn hnt hc hr
theorem Yp {P : Program} {f nt : Nat} {ac : ACode} {rs : List ARes} (hf : FnOk P f nt ac rs) {args : List PV} {R : PV → Prop} (hk : ∀ C : Ctx, C.dom 0 → aw P C ac (retQ rs R) 0 (argEnv args) (fun _ => none)) (hn : args.length ≤ nt := by exact Nat.le_of_ble_eq_true rfl) : Spec P f args R := Z3 hf hn hk
def ir5 : ACode := (Yr [oO 6 (.mov kF)] (sQ (Yr [Yc 19 6 [],oO 20 (.una .not (tT 19))] (.cond (tT 20) (Yr [oO 6 (.mov kF)] .ret) .skip)) (Yr [oM 22 0,Yc 23 7 [tT 22],oM 21 23,Yx 24 21 0,Yx 25 21 1,Yx 26 21 2,
 oO 7 (.alloc [(.int .i64 0),(.pointer none),nS,nS,nS,nS]),oO 8 (.alloc [(.int .i64 0),nS,(.int .u64 0),nS,nS,nS]),Ys 6 7 24,Ys 6 8 25,oM 9 26] (Yr [Yl 28 6 7,Yc 29 14 [tT 28,kI 64],oM 27 29,Yx 30 27 0,
 Yx 31 27 1,Yx 32 27 2,Yx 33 27 3,oM 10 30,oM 11 31,oM 12 32,oM 13 33] (sQ (Yr [oM 34 9,oO 35 (.una .not (tT 34)),oM 36 35,oF 36 37 (.mov (tT 13)),oF 36 38 (.bin .neq .num (tT 37) (kI 0)),oO 39 (.pick (tT 36) kT (tT 38))] (.cond (tT 39) (Yr [oO 6 (.mov kF)] .ret) .skip)) (sQ (Yr [oM 40 12,
 oM 41 40,oF 41 42 (.mov (tT 11)),oF 41 43 (.len (tT 42)),oF 41 44 (.bin .eql .num (tT 43) (kI 0)),oO 45 (.pick (tT 41) kT (tT 44))] (.cond (tT 45) (Yr [oO 6 (.mov kT)] .ret) .skip)) (Yr [oM 46 1,oO 47 (.conv .i64 (tT 46)),
 oM 48 11,Yn 49 48,oO 50 (.bin .rem .num (tT 47) (tT 49)),oM 14 50] (sQ (.draw [Yd 0 (oO 51 (.bslice [nS,nS] 0 [])) 0 0,Yd 1 (oM 52 11) 0 0,Yd 2 (oM 53 14) 0 0,Yd 3 (oO 54 (.slc 2 (tT 52) none (some (tT 53)) none)) 6 0,
 Yd 4 (oO 55 (.append [nS,nS] 48 (tT 51) (tT 54))) 15 30,Yd 5 (oM 56 11) 0 0,Yd 6 (oM 57 14) 0 0,Yd 7 (oO 58 (.bin .add .num (tT 57) (kI 1))) 64 0,Yd 8 (oO 59 (.slc 2 (tT 56) (some (tT 58)) none none)) 224 0,
 Yd 9 (oO 60 (.append [nS,nS] 48 (tT 55) (tT 59))) 511 1,Yd 10 (oM 15 60) 1023 1]) (Yr [oO 61 (.bslice [nS,nS] 0 []),oM 62 11,oO 63 (.append [nS,nS] 48 (tT 61) (tT 62)),oM 16 63] (sQ (.draw [Yd 0 (oM 64 16) 0 0,
 Yd 1 (oM 65 14) 0 0,Yd 2 (oM 66 16) 0 0,Yd 3 (oM 67 14) 0 0,Yd 4 (Yi 68 2 66 67) 12 0,Yd 5 (Ya 69 0 68) 28 0,Yd 6 (Yl 70 1 69) 60 0,Yd 7 (oM 71 2) 0 0,Yd 8 (oO 72 (.conv .i64 (tT 71))) 128 0,Yd 9 (Ya 73 0 8) 0 0,
 Yd 10 (Yk 74 73) 512 0,Yd 11 (oO 75 (.bin .rem .num (tT 72) (tT 74))) 1920 0,Yd 12 (oO 76 (.bin .add .num (kI 1) (tT 75))) 3968 0,Yd 13 (Yc 77 15 [tT 70,tT 76]) 8188 1,Yd 14 (Yi 78 2 64 65) 16383 1,Yd 15 (Ya 79 0 78) 32767 1,
 Yd 16 (Ys 1 79 77) 65535 1]) (sQ (Yr [oM 80 15,oM 81 16,oO 82 (.bslice [nS] 2 [(0,(tT 80)),(1,(tT 81))]),Yn 83 82,oO 84 (.mov (kI 0))] (.block 0 (.loop (Yr [oO 85 (.bin .lss .num (tT 84) (tT 83))] (sQ (.cond (tT 85) .skip (.exit 0)) (sQ (.block 1 (Yr [Yi 86 1 82 84,
 Yk 87 86,oM 18 87] (sQ (.draw [Yd 0 (Yl 88 6 7) 0 0,Yd 1 (Yl 89 6 7) 0 0,Yd 2 (oM 90 18) 0 0,Yd 3 (Yc 91 16 [tT 89,tT 90]) 6 0,Yd 4 (Yc 92 9 [tT 88,tT 91]) 15 1,Yd 5 (oO 93 (.field false 1 0 (tT 92))) 31 1,
 Yd 6 (oO 94 (.bin .eql .num (tT 93) (.const (.int .u8 1)))) 63 1,Yd 7 (oM 95 94) 127 1,Yd 8 (oT 95 96 (.load true 6 (tT 8))) 255 1,Yd 9 (oT 95 97 (kC 10 [tT 96])) 511 1,Yd 10 (oO 98 (.pick (tT 95) (tT 97) kF)) 1023 1]) (.cond (tT 98) (Yr [oO 6 (.mov kF)] .ret) .skip)))) (Yg [oO 99 (.bin .add .num (tT 84) (kI 1)),
 oM 84 99]))))))) (Yr [Yl 100 6 8,Yc 101 10 [tT 100],oO 102 (.una .not (tT 101)),oM 6 102] .ret))))))))))))
theorem ok5 : FnOk Tryz.prog 5 103 ir5 [.tmp 6] := Yf Tryz.func5 Tryz.ntmps5 mixed
def ir6 : ACode := (Yr [oO 0 (.mov kF)] (Yr [oO 6 (.bslice [(.int .i64 0)] 1 [(0,(kI 1))]),Yc 7 17 [tT 6],oO 8 (.build [nS,nS] [(0,1,(tT 7))]),oO 9 (.bslice [(.int .i64 0)] 1 [(0,(kI 2))]),Yc 10 17 [tT 9],
 oO 11 (.build [nS,nS] [(0,1,(tT 10))]),oO 1 (.alloc [nS,nS]),oO 2 (.alloc [nS,nS]),Ys 2 1 8,Ys 2 2 11] (sQ (.draw [Yd 0 (Yc 12 18 []) 0 0,Yd 1 (oO 13 (.build [(.bool false),nS,nS,(.int .i64 0),(.int .i64 0)] [(3,
 1,(kI 1))])) 0 0,Yd 2 (Yl 14 2 1) 0 0,Yd 3 (oO 15 (.build [(.bool false),nS,nS,(.int .i64 0),(.int .i64 0)] [(3,1,(kI 2)),(1,2,(tT 14))])) 4 0,Yd 4 (oO 16 (.bslice [(.bool false),nS,nS,(.int .i64 0),(.int .i64 0)] 2 [(0,
 (tT 13)),(1,(tT 15))])) 14 0,Yd 5 (Yl 17 2 2) 0 0,Yd 6 (oO 18 (.bslice [nS,nS] 1 [(0,(tT 17))])) 32 0,Yd 7 (oO 19 (.build [(.int .i64 0),(.pointer none),nS,nS,nS,nS] [(0,1,(kI 2)),(1,1,(tT 12)),(3,1,(tT 16)),
 (5,1,(tT 18))])) 127 1,Yd 8 (oO 3 (.alloc [(.int .i64 0),(.pointer none),nS,nS,nS,nS])) 0 0,Yd 9 (Ys 6 3 19) 511 1]) (sQ (sQ (.draw [Yd 0 (Yl 20 6 3) 0 0,Yd 1 (oO 21 (.bslice [(.int .i64 0)] 2 [(0,(kI 0)),
 (1,(kI 1))])) 0 0,Yd 2 (Yc 22 19 [tT 20,tT 21]) 3 0,Yd 3 (oO 23 (.build [Yu,(.int .i64 0),(.int .i64 0)] [(0,1,(.const (.int .u8 1)))])) 0 0,Yd 4 (oO 24 (.build [Yu,Yu,Yu,Yu,Yu,Yu,Yu,Yu,Yu,Yu,Yu,Yu,Yu,
 Yu,Yu,Yu,Yu,Yu,Yu,Yu,Yu,Yu,Yu,Yu,Yu,Yu,Yu,Yu,Yu,Yu,Yu,Yu,(.bool false),nS,nS,Yu,(.int .i64 0),(.int .i64 0)] [(0,35,(tT 22)),(35,3,(tT 23))])) 15 0,Yd 5 (Yl 25 6 3) 0 0,Yd 6 (oO 26 (.bslice [(.int .i64 0)] 2 [(0,
 (kI 1)),(1,(kI 0))])) 0 0,Yd 7 (Yc 27 19 [tT 25,tT 26]) 103 0,Yd 8 (oO 28 (.build [Yu,(.int .i64 0),(.int .i64 0)] [(0,1,(.const (.int .u8 4))),(1,1,(kI 0)),(2,1,(kI 1))])) 0 0,Yd 9 (oO 29 (.build [Yu,
 Yu,Yu,Yu,Yu,Yu,Yu,Yu,Yu,Yu,Yu,Yu,Yu,Yu,Yu,Yu,Yu,Yu,Yu,Yu,Yu,Yu,Yu,Yu,Yu,Yu,Yu,Yu,Yu,Yu,Yu,Yu,(.bool false),nS,nS,Yu,(.int .i64 0),(.int .i64 0)] [(0,35,(tT 27)),(35,3,(tT 28))])) 487 0,Yd 10 (Yl 30 6 3) 0 0,
 Yd 11 (oO 31 (.bslice [(.int .i64 0)] 1 [(0,(kI 0))])) 0 0,Yd 12 (Yc 32 19 [tT 30,tT 31]) 3303 0,Yd 13 (oO 33 (.build [Yu,(.int .i64 0),(.int .i64 0)] [(0,1,(.const (.int .u8 5)))])) 0 0,Yd 14 (oO 34 (.build [Yu,
 Yu,Yu,Yu,Yu,Yu,Yu,Yu,Yu,Yu,Yu,Yu,Yu,Yu,Yu,Yu,Yu,Yu,Yu,Yu,Yu,Yu,Yu,Yu,Yu,Yu,Yu,Yu,Yu,Yu,Yu,Yu,(.bool false),nS,nS,Yu,(.int .i64 0),(.int .i64 0)] [(0,35,(tT 32)),(35,3,(tT 33))])) 15591 0,Yd 15 (Yl 35 6 3) 0 0,
 Yd 16 (Yl 36 2 2) 0 0,Yd 17 (oO 37 (.bslice [nS,nS] 1 [(0,(tT 36))])) 65536 0,Yd 18 (Yc 38 16 [tT 35,tT 37]) 236775 0,Yd 19 (oO 39 (.build [Yu,(.int .i64 0),(.int .i64 0)] [(0,1,(.const (.int .u8 8))),
 (1,1,(kI 0)),(2,1,(kI 1))])) 0 0,Yd 20 (oO 40 (.build [Yu,Yu,Yu,Yu,Yu,Yu,Yu,Yu,Yu,Yu,Yu,Yu,Yu,Yu,Yu,Yu,Yu,Yu,Yu,Yu,Yu,Yu,Yu,Yu,Yu,Yu,Yu,Yu,Yu,Yu,Yu,Yu,(.bool false),nS,nS,Yu,(.int .i64 0),(.int .i64 0)] [(0,
 35,(tT 38)),(35,3,(tT 39))])) 1023207 0,Yd 21 (Yl 41 6 3) 0 0,Yd 22 (Yl 42 2 1) 0 0,Yd 23 (Yl 43 2 2) 0 0,Yd 24 (oO 44 (.bslice [nS,nS] 2 [(0,(tT 42)),(1,(tT 43))])) 12582912 0,Yd 25 (Yc 45 16 [tT 41,tT 44]) 31956199 0,
 Yd 26 (oO 46 (.build [Yu,(.int .i64 0),(.int .i64 0)] [(0,1,(.const (.int .u8 8))),(1,1,(kI 0)),(2,1,(kI 0))])) 0 0,Yd 27 (oO 47 (.build [Yu,Yu,Yu,Yu,Yu,Yu,Yu,Yu,Yu,Yu,Yu,Yu,Yu,Yu,Yu,Yu,Yu,Yu,Yu,Yu,Yu,
 Yu,Yu,Yu,Yu,Yu,Yu,Yu,Yu,Yu,Yu,Yu,(.bool false),nS,nS,Yu,(.int .i64 0),(.int .i64 0)] [(0,35,(tT 45)),(35,3,(tT 46))])) 132619495 0,Yd 28 (Yl 48 6 3) 0 0,Yd 29 (Yc 49 16 [tT 48,(.const nS)]) 333946087 1,
 Yd 30 (oO 50 (.build [Yu,(.int .i64 0),(.int .i64 0)] [(0,1,(.const (.int .u8 7)))])) 0 0,Yd 31 (oO 51 (.build [Yu,Yu,Yu,Yu,Yu,Yu,Yu,Yu,Yu,Yu,Yu,Yu,Yu,Yu,Yu,Yu,Yu,Yu,Yu,Yu,Yu,Yu,Yu,Yu,Yu,Yu,Yu,Yu,Yu,Yu,
 Yu,Yu,(.bool false),nS,nS,Yu,(.int .i64 0),(.int .i64 0)] [(0,35,(tT 49)),(35,3,(tT 50))])) 1944558823 1,Yd 32 (oO 52 (.bslice [Yu,Yu,Yu,Yu,Yu,Yu,Yu,Yu,Yu,Yu,Yu,Yu,Yu,Yu,Yu,Yu,Yu,Yu,Yu,Yu,Yu,Yu,Yu,Yu,Yu,
 Yu,Yu,Yu,Yu,Yu,Yu,Yu,(.bool false),nS,nS,Yu,(.int .i64 0),(.int .i64 0)] 6 [(0,(tT 24)),(1,(tT 29)),(2,(tT 34)),(3,(tT 40)),(4,(tT 47)),(5,(tT 51))])) 4294967295 1,Yd 33 (Yn 53 52) 8589934591 1,Yd 34 (oO 54 (.mov (kI 0))) 0 0]) (.block 0 (.loop (Yr [oO 55 (.bin .lss .num (tT 54) (tT 53))] (sQ (.cond (tT 55) .skip (.exit 0)) (sQ (.block 1 (Yr [Yi 56 38 52 54,
 Yl 57 38 56,oO 5 (.alloc [Yu,Yu,Yu,Yu,Yu,Yu,Yu,Yu,Yu,Yu,Yu,Yu,Yu,Yu,Yu,Yu,Yu,Yu,Yu,Yu,Yu,Yu,Yu,Yu,Yu,Yu,Yu,Yu,Yu,Yu,Yu,Yu,(.bool false),nS,nS,Yu,(.int .i64 0),(.int .i64 0)]),Ys 38 5 57] (sQ (.draw [Yd 0 (Yl 58 6 3) 0 0,
 Yd 1 (Ya 59 0 5) 0 0,Yd 2 (Yl 60 35 59) 2 0,Yd 3 (Yc 61 9 [tT 58,tT 60]) 7 0,Yd 4 (Ya 62 35 5) 0 0,Yd 5 (Yl 63 3 62) 16 0,Yd 6 (oO 64 (.bin .neq (.cells [0,0,0]) (tT 61) (tT 63))) 63 1]) (.cond (tT 64) (Yr [oO 0 (.mov kF)] .ret) .skip)))) (Yg [oO 65 (.bin .add .num (tT 54) (kI 1)),
 oM 54 65]))))))) (Yr [oO 66 (.bslice [(.int .i64 0)] 2 [(0,(kI 1)),(1,(kI 2))]),Yc 67 17 [tT 66],oO 68 (.build [nS,nS] [(0,1,(tT 67))]),oO 69 (.bslice [nS,nS] 1 [(0,(tT 68))]),Ya 70 4 3,Ys 1 70 69] (sQ (.draw [Yd 0 (Yl 71 6 3) 0 0,
 Yd 1 (Yl 72 6 3) 0 0,Yd 2 (Yl 73 2 2) 0 0,Yd 3 (oO 74 (.bslice [nS,nS] 1 [(0,(tT 73))])) 4 0,Yd 4 (Yc 75 16 [tT 72,tT 74]) 14 0,Yd 5 (Yc 76 9 [tT 71,tT 75]) 31 1,Yd 6 (oO 77 (.build [Yu,(.int .i64 0),(.int .i64 0)] [(0,
 1,(.const (.int .u8 1)))])) 0 0,Yd 7 (oO 78 (.bin .eql (.cells [0,0,0]) (tT 76) (tT 77))) 127 1,Yd 8 (oM 0 78) 255 1]) .ret))))))
theorem ok6 : FnOk Tryz.prog 6 79 ir6 [.tmp 0] := Yf Tryz.func6 Tryz.ntmps6 mixed
def ir7 : ACode := (Yr [oO 2 (.alloc [(.int .i64 0),(.pointer none),nS,nS,nS,nS]),oO 3 (.alloc [(.int .i64 0),nS,(.int .u64 0),nS,nS,nS]),oO 4 (.mov kF)] (Yr [oM 8 0,Yc 9 20 [tT 8],oO 5 (.alloc [(.int .i64 0),
 nS,(.int .u64 0),nS,nS,nS]),Ys 6 5 9] (Yr [Yl 11 6 5,Yc 12 21 [tT 11],oM 10 12,Yx 13 10 0,Yx 14 10 1,oO 6 (.alloc [(.int .i64 0),(.pointer none),nS,nS,nS,nS]),Ys 6 6 13,oM 7 14] (sQ (.draw [Yd 0 (Yl 15 6 6) 0 0,
 Yd 1 (Yl 16 6 5) 0 0,Yd 2 (oM 17 7) 0 0,Yd 3 (Ys 6 2 15) 1 2,Yd 4 (Ys 6 3 16) 11 1,Yd 5 (oM 4 17) 31 1]) .ret))))
theorem ok7 : FnOk Tryz.prog 7 18 ir7 [.cell 2 true 6, .cell 3 true 6, .tmp 4] := Yf Tryz.func7 Tryz.ntmps7 mixed
def ir9 : ACode := (Yr [Yb 2 0,Yb 3 1,oO 4 (.alloc [Yu,(.int .i64 0),(.int .i64 0)])] (Yr [Yl 8 6 2,Yc 9 26 [tT 8],oO 5 (.alloc Y1),Ys 32 5 9] (sQ (Yr [Ya 10 0 3,Yl 11 32 10,Yl 12 32 5,oO 13 (.bin .neq (.cells Y3) (tT 11) (tT 12)),
 oM 14 13,oF 14 15 (.load true 32 (tT 5)),oF 14 16 (.build Y1 []),oF 14 17 (.bin .eql (.cells Y3) (tT 15) (tT 16)),oO 18 (.pick (tT 14) kT (tT 17))] (.cond (tT 18) (Yr [oO 19 (.build [Yu,(.int .i64 0),(.int .i64 0)] [(0,
 1,(.const (.int .u8 2)))]),Ys 3 4 19] .ret) .skip)) (sQ (Yr [Yl 20 35 3,Yc 21 27 [tT 20],oO 22 (.bin .neq .num (tT 21) (kI 0)),oM 23 22,oF 23 24 (.load true 6 (tT 2)),oF 23 25 (.faddr 34 (tT 3)),oF 23 26 (.load false 1 (tT 25)),
 oF 23 27 (kC 28 [tT 24,tT 26]),oF 23 28 (.una .not (tT 27)),oO 29 (.pick (tT 23) kT (tT 28))] (.cond (tT 29) (Yr [oO 30 (.build [Yu,(.int .i64 0),(.int .i64 0)] [(0,1,(.const (.int .u8 3)))]),Ys 3 4 30] .ret) .skip)) (sQ (Yr [Ya 31 33 3,
 Yk 32 31,Yn 33 32,oO 34 (.mov (kI 0))] (.block 0 (.loop (Yr [oO 35 (.bin .lss .num (tT 34) (tT 33))] (sQ (.cond (tT 35) .skip (.exit 0)) (sQ (.block 1 (Yr [Yi 36 1 32 34,Yk 37 36,oM 7 37] (Yr [oM 38 7,
 oO 39 (.bin .lss .num (tT 38) (kI 0)),oM 40 39,oF 40 41 (.mov (tT 7)),oF 40 42 (.faddr 3 (tT 2)),oF 40 43 (.load false 1 (tT 42)),oF 40 44 (.len (tT 43)),oF 40 45 (.bin .geq .num (tT 41) (tT 44)),oO 46 (.pick (tT 40) kT (tT 45))] (.cond (tT 46) (Yr [oO 47 (.build [Yu,
 (.int .i64 0),(.int .i64 0)] [(0,1,(.const (.int .u8 3)))]),Ys 3 4 47] .ret) .skip)))) (Yg [oO 48 (.bin .add .num (tT 34) (kI 1)),oM 34 48]))))))) (sQ (Yr [Ya 49 32 3,Yk 50 49] (.cond (tT 50) (Yr [Yl 51 6 2,
 Ya 52 33 3,Yk 53 52,Yc 54 29 [tT 51,tT 53],Ys 3 4 54] .ret) .skip)) (Yr [Yl 55 6 2,Ya 56 34 3,Yk 57 56,Yc 58 30 [tT 55,tT 57],Ys 3 4 58] .ret)))))))
theorem ok9 : FnOk Tryz.prog 9 59 ir9 [.cell 4 true 3] := Yf Tryz.func9 Tryz.ntmps9 mixed
def ir10 : ACode := (Yr [Yb 1 0,oO 2 (.mov kF)] (sQ (Yr [Yl 5 6 1,Yc 6 31 [tT 5],Yn 7 6,oO 8 (.mov (kI 0))] (.block 0 (.loop (Yr [oO 9 (.bin .lss .num (tT 8) (tT 7))] (sQ (.cond (tT 9) .skip (.exit 0)) (sQ (.block 1 (Yr [Yi 10 1 6 8,
 Yk 11 10,oM 4 11] (Yr [Yl 12 6 1,oM 13 4,Yc 14 32 [tT 12,tT 13]] (.cond (tT 14) (Yr [oO 2 (.mov kT)] .ret) .skip)))) (Yg [oO 15 (.bin .add .num (tT 8) (kI 1)),oM 8 15]))))))) (Yr [oO 2 (.mov kF)] .ret)))
theorem ok10 : FnOk Tryz.prog 10 16 ir10 [.tmp 2] := Yf Tryz.func10 Tryz.ntmps10 mixed
def ir11 : ACode := (Yr [oO 2 (.alloc [nS])] (Yr [oM 3 0,Yc 4 33 [tT 3],Yc 5 17 [tT 4],Ys 1 2 5] .ret))
theorem ok11 : FnOk Tryz.prog 11 6 ir11 [.cell 2 true 1] := Yf Tryz.func11 Tryz.ntmps11 mixed
def ir14 : ACode := (Yr [Yb 2 0,oO 4 (.mov (.const nS)),oO 5 (.mov (.const nS)),oO 6 (.mov kF),oO 7 (.mov (kI 0))] (sQ (Yr [Yl 17 6 2,Yc 18 40 [tT 17],oM 8 18] (Yr [oM 19 8,oO 20 (.bin .neq .num (tT 19) (kI 0))] (.cond (tT 20) (Yr [oM 21 8,
 oO 4 (.mov (.const nS)),oO 5 (.mov (.const nS)),oO 6 (.mov kF),oM 7 21] .ret) .skip))) (sQ (Yr [oM 22 1,oO 23 (.bin .lss .num (tT 22) (kI 1))] (.cond (tT 23) (Yr [oO 4 (.mov (.const nS)),oO 5 (.mov (.const nS)),
 oO 6 (.mov kF),oO 7 (.mov (kI 1))] .ret) .skip)) (Yr [Yl 25 6 2,Yc 26 41 [tT 25],oM 24 26,Yx 27 24 0,Yx 28 24 1,oM 9 27,oM 7 28] (sQ (Yr [oM 29 7,oO 30 (.bin .neq .num (tT 29) (kI 0))] (.cond (tT 30) (Yr [oM 31 7,
 oO 4 (.mov (.const nS)),oO 5 (.mov (.const nS)),oO 6 (.mov kF),oM 7 31] .ret) .skip)) (Yr [Yl 33 6 2,Yc 34 42 [tT 33],oM 32 34,Yx 35 32 0,Yx 36 32 1,oM 10 35,oM 7 36] (sQ (Yr [oM 37 7,oO 38 (.bin .neq .num (tT 37) (kI 0))] (.cond (tT 38) (Yr [oM 39 7,
 oO 4 (.mov (.const nS)),oO 5 (.mov (.const nS)),oO 6 (.mov kF),oM 7 39] .ret) .skip)) (Yr [oM 40 1,oO 41 (.build [nS,nS,(.int .i64 0)] [(2,1,(tT 40))]),Yb 42 41,oM 11 42] (sQ (Yr [oM 43 10,Yn 44 43,oO 45 (.mov (kI 0))] (.block 0 (.loop (Yr [oO 46 (.bin .lss .num (tT 45) (tT 44))] (sQ (.cond (tT 46) .skip (.exit 0)) (sQ (.block 1 (Yr [Yi 47 2 43 45,
 Yl 48 2 47,oO 13 (.alloc [nS,nS]),Ys 2 13 48] (Yr [oM 49 11,Yl 50 2 13,oO 51 (.build [(.int .i64 0),(.int .i64 0)] [(0,1,(.const (.int .i64 (-1)))),(1,1,(kI 0))]),Yc 52 43 [tT 49,tT 50,tT 51],oM 14 52] (Yr [oM 53 14,
 oO 54 (.bin .neq .num (tT 53) (kI 0))] (.cond (tT 54) (Yr [oM 55 14,oO 4 (.mov (.const nS)),oO 5 (.mov (.const nS)),oO 6 (.mov kF),oM 7 55] .ret) .skip))))) (Yg [oO 56 (.bin .add .num (tT 45) (kI 1)),oM 45 56]))))))) (sQ (Yr [oO 15 (.mov (kI 0))] (.block 2 (.loop (sQ (Yr [oM 57 15,
 oM 58 11,oO 59 (.nilck (tT 58)),Ya 60 0 59,Yk 61 60,Yn 62 61,oO 63 (.bin .lss .num (tT 57) (tT 62))] (.cond (tT 63) .skip (.exit 2))) (sQ (.block 3 (sQ (sQ (.draw [Yd 0 (oM 66 11) 0 0,Yd 1 (oO 67 (.nilck (tT 66))) 1 0,
 Yd 2 (Ya 68 0 67) 3 0,Yd 3 (Yk 69 68) 7 0,Yd 4 (oM 70 15) 0 0,Yd 5 (Yi 71 2 69 70) 31 0,Yd 6 (Yl 72 2 71) 63 0,Yd 7 (Ya 73 2 2) 0 0,Yd 8 (Yl 74 1 73) 128 0,Yd 9 (Yc 75 36 [tT 72,tT 74]) 511 1]) (.cond (tT 75) (Yr [oM 76 11,
 oM 77 15,Yc 78 44 [tT 76,tT 77],oM 4 78,oO 5 (.mov (.const nS)),oO 6 (.mov kT),oO 7 (.mov (kI 0))] .ret) .skip)) (Yr [oM 79 9,oM 80 11,oM 81 15,Yc 82 45 [tT 79,tT 80,tT 81],oM 16 82] (Yr [oM 83 16,oO 84 (.bin .neq .num (tT 83) (kI 0))] (.cond (tT 84) (Yr [oM 85 16,
 oO 4 (.mov (.const nS)),oO 5 (.mov (.const nS)),oO 6 (.mov kF),oM 7 85] .ret) .skip))))) (Yg [oM 64 15,oO 65 (.bin .add .num (tT 64) (kI 1)),oM 15 65])))))) (sQ (.draw [Yd 0 (oM 86 11) 0 1,Yd 1 (oO 87 (.nilck (tT 86))) 1 1,
 Yd 2 (Ya 88 0 87) 3 1,Yd 3 (Yk 89 88) 7 1,Yd 4 (oO 4 (.mov (.const nS))) 0 0,Yd 5 (oM 5 89) 31 1,Yd 6 (oO 6 (.mov kF)) 63 1,Yd 7 (oO 7 (.mov (kI 0))) 127 1]) .ret)))))))))))
theorem ok14 : FnOk Tryz.prog 14 90 ir14 [.tmp 4, .tmp 5, .tmp 6, .tmp 7] := Yf Tryz.func14 Tryz.ntmps14 mixed
def ir15 : ACode := (Yr [Yb 2 0,oO 4 (.alloc [nS])] (sQ (Yr [oM 6 1,oO 7 (.bin .lss .num (tT 6) (kI 0)),oM 8 7,oF 8 9 (.mov (tT 1)),oF 8 10 (.bin .gtr .num (tT 9) (kI 4095)),oO 11 (.pick (tT 8) kT (tT 10)),
 oM 12 11,oF 12 13 (.load true 1 (tT 2)),oF 12 14 (.mov (tT 1)),oF 12 15 (kC 35 [tT 13,tT 14]),oO 16 (.pick (tT 12) kT (tT 15))] (.cond (tT 16) (Yr [Yl 17 1 2,Ys 1 4 17] .ret) .skip)) (Yr [Ya 18 0 2,Yk 19 18,
 Yn 20 19,oM 21 1,oO 22 (.bin .quo .num (tT 21) (kI 64)),oO 23 (.bin .add .num (tT 22) (kI 1)),oO 24 (.mx (tT 20) (tT 23)),oO 25 (.mslice [(.int .u64 0)] 8 (tT 24) (tT 24)),oM 5 25] (Yr [oM 26 5,Ya 27 0 2,
 Yk 28 27,oO 29 (.copy 1 (tT 26) (tT 28))] (sQ (.draw [Yd 0 (oM 30 5) 0 1,Yd 1 (oM 31 1) 0 1,Yd 2 (oO 32 (.bin .quo .num (tT 31) (kI 64))) 2 1,Yd 3 (Yi 33 1 30 32) 7 1,Yd 4 (Yk 34 33) 15 1,Yd 5 (oM 35 1) 0 0,
 Yd 6 (oO 36 (.bin .rem .num (tT 35) (kI 64))) 32 0,Yd 7 (oO 37 (.bin .shl .num (.const (.int .u64 1)) (tT 36))) 96 0,Yd 8 (oO 38 (.bin .or .num (tT 34) (tT 37))) 255 1,Yd 9 (Yi 39 1 30 32) 511 1,Yd 10 (Ys 1 39 38) 1023 1]) (Yr [oM 40 5,
 oO 41 (.build [nS] [(0,1,(tT 40))]),Ys 1 4 41] .ret))))))
theorem ok15 : FnOk Tryz.prog 15 42 ir15 [.cell 4 true 1] := Yf Tryz.func15 Tryz.ntmps15 mixed
def ir16 : ACode := (Yr [Yb 2 0,oO 4 (.alloc Y2)] (Yr [Yl 5 6 2,Yc 6 26 [tT 5],oM 7 1,Yc 8 46 [tT 7],oO 9 (.build Y2 [(0,32,(tT 6)),(34,1,(tT 8))]),Ys 35 4 9] .ret))
theorem ok16 : FnOk Tryz.prog 16 10 ir16 [.cell 4 true 35] := Yf Tryz.func16 Tryz.ntmps16 mixed
def ir17 : ACode := (Yr [oO 2 (.alloc [nS])] (Yr [oO 3 (.mov (.const (.int .i64 (-1))))] (sQ (Yr [oM 9 0,Yn 10 9,oO 11 (.mov (kI 0))] (.block 0 (.loop (Yr [oO 12 (.bin .lss .num (tT 11) (tT 10))] (sQ (.cond (tT 12) .skip (.exit 0)) (sQ (.block 1 (Yr [Yi 13 1 9 11,
 Yk 14 13,oM 5 14] (Yr [oM 15 5,oO 16 (.bin .leq .num (tT 15) (kI 4095))] (.cond (tT 16) (Yg [oM 17 3,oM 18 5,oO 19 (.mx (tT 17) (tT 18)),oM 3 19]) .skip)))) (Yg [oO 20 (.bin .add .num (tT 11) (kI 1)),oM 11 20]))))))) (sQ (Yr [oM 21 3,
 oO 22 (.bin .lss .num (tT 21) (kI 0))] (.cond (tT 22) (Yr [oO 23 (.build [nS] []),Ys 1 2 23] .ret) .skip)) (Yr [oM 24 3,oO 25 (.bin .quo .num (tT 24) (kI 64)),oO 26 (.bin .add .num (tT 25) (kI 1)),oO 27 (.mslice [(.int .u64 0)] 8 (tT 26) (tT 26)),
 oM 6 27] (sQ (Yr [oM 28 0,Yn 29 28,oO 30 (.mov (kI 0))] (.block 2 (.loop (Yr [oO 31 (.bin .lss .num (tT 30) (tT 29))] (sQ (.cond (tT 31) .skip (.exit 2)) (sQ (.block 3 (Yr [Yi 32 1 28 30,Yk 33 32,oM 8 33] (Yr [oM 34 8,
 oO 35 (.bin .geq .num (tT 34) (kI 0)),oM 36 35,oT 36 37 (.mov (tT 8)),oT 36 38 (.mov (tT 3)),oT 36 39 (.bin .leq .num (tT 37) (tT 38)),oO 40 (.pick (tT 36) (tT 39) kF)] (.cond (tT 40) (.draw [Yd 0 (oM 41 6) 0 1,
 Yd 1 (oM 42 8) 0 1,Yd 2 (oO 43 (.bin .quo .num (tT 42) (kI 64))) 2 1,Yd 3 (Yi 44 1 41 43) 7 1,Yd 4 (Yk 45 44) 15 1,Yd 5 (oM 46 8) 0 0,Yd 6 (oO 47 (.bin .rem .num (tT 46) (kI 64))) 32 0,Yd 7 (oO 48 (.bin .shl .num (.const (.int .u64 1)) (tT 47))) 96 0,
 Yd 8 (oO 49 (.bin .or .num (tT 45) (tT 48))) 255 1,Yd 9 (Yi 50 1 41 43) 511 1,Yd 10 (Ys 1 50 49) 1023 1]) .skip)))) (Yg [oO 51 (.bin .add .num (tT 30) (kI 1)),oM 30 51]))))))) (Yr [oM 52 6,Yc 53 47 [tT 52],
 Ys 1 2 53] .ret)))))))
theorem ok17 : FnOk Tryz.prog 17 54 ir17 [.cell 2 true 1] := Yf Tryz.func17 Tryz.ntmps17 mixed
def ir18 : ACode := (Yr [oO 0 (.mov (.const (.pointer none)))] (Yr [Yc 4 48 [kI 64,(.const nS)],oM 3 4,Yx 5 3 0,Yx 6 3 1,oM 1 5,oM 2 6] (Yr [oM 7 1,oO 8 (.build [(.pointer none)] [(0,1,(tT 7))]),Yb 9 8,
 oM 0 9] .ret)))
theorem ok18 : FnOk Tryz.prog 18 10 ir18 [.tmp 0] := Yf Tryz.func18 Tryz.ntmps18 mixed
def ir19 : ACode := (Yr [Yb 2 0,oO 4 (.alloc Y2)] (Yr [Yl 5 6 2,Yc 6 26 [tT 5],oM 7 1,Yc 8 49 [tT 7],oO 9 (.build Y2 [(0,32,(tT 6)),(32,1,kT),(33,1,(tT 8))]),Ys 35 4 9] .ret))
theorem ok19 : FnOk Tryz.prog 19 10 ir19 [.cell 4 true 35] := Yf Tryz.func19 Tryz.ntmps19 mixed
def ir20 : ACode := (Yr [oO 2 (.alloc [(.int .i64 0),nS,(.int .u64 0),nS,nS,nS])] (Yr [oM 26 0,oO 27 (.build [nS,(.int .i64 0)] [(0,1,(tT 26))]),Yb 28 27,oM 3 28] (Yr [oM 29 3,Yc 30 50 [tT 29],oO 31 (.bin .rem .num (tT 30) (kI 4)),
 oO 32 (.bin .add .num (kI 2) (tT 31)),oO 33 (.build [(.int .i64 0),nS,(.int .u64 0),nS,nS,nS] [(0,1,(tT 32))]),oO 4 (.alloc [(.int .i64 0),nS,(.int .u64 0),nS,nS,nS]),Ys 6 4 33] (Yr [Ya 34 0 4,Yk 35 34,
 oO 36 (.conv .u64 (tT 35)),oO 37 (.bin .shl .num (.const (.int .u8 2)) (tT 36)),oO 38 (.bin .sub .num (tT 37) (.const (.int .u8 2))),oM 5 38] (Yr [oM 39 3,Yc 40 50 [tT 39],oM 6 40] (Yr [oO 7 (.mov (kI 0))] (sQ (Yr [oO 8 (.mov (kI 1))] (.block 0 (.loop (sQ (Yr [oM 41 8,
 Ya 42 0 4,Yk 43 42,oO 44 (.bin .lss .num (tT 41) (tT 43))] (.cond (tT 44) .skip (.exit 0))) (sQ (.block 1 (Yr [oM 47 8,oO 48 (.bin .add .num (tT 47) (kI 1)),oM 9 48] (.block 2 (.loop (sQ (Yr [oM 49 9,Ya 50 0 4,
 Yk 51 50,oO 52 (.bin .leq .num (tT 49) (tT 51))] (.cond (tT 52) .skip (.exit 2))) (sQ (.block 3 (sQ (Yr [oM 55 6,oM 56 7,oO 57 (.bin .rem .num (tT 56) (kI 8)),oO 58 (.conv .u64 (tT 57)),oO 59 (.bin .shr .num (tT 55) (tT 58)),
 oO 60 (.bin .rem .num (tT 59) (kI 2)),oO 61 (.bin .eql .num (tT 60) (kI 1)),oM 62 61,oT 62 63 (.mov (tT 7)),oT 62 64 (.bin .rem .num (tT 63) (kI 3)),oT 62 65 (.bin .neq .num (tT 64) (kI 2)),oO 66 (.pick (tT 62) (tT 65) kF)] (.cond (tT 66) (Yg [Ya 68 1 4,
 Yk 69 68,oM 70 8,oM 71 9,Yc 72 51 [tT 69,tT 70,tT 71],oM 67 72,Yx 73 67 0,Yx 74 67 1,Ya 75 1 4,Ys 1 75 73]) .skip)) (Yg [oM 76 7,oO 77 (.bin .add .num (tT 76) (kI 1)),oM 7 77]))) (Yg [oM 53 9,oO 54 (.bin .add .num (tT 53) (kI 1)),
 oM 9 54]))))))) (Yg [oM 45 8,oO 46 (.bin .add .num (tT 45) (kI 1)),oM 8 46])))))) (Yr [oM 78 3,Yc 79 50 [tT 78],oO 80 (.conv .u8 (tT 79)),oM 81 5,oO 82 (.bin .and .num (tT 80) (tT 81)),oO 83 (.conv .u64 (tT 82)),
 Ya 84 2 4,Ys 1 84 83] (Yr [oM 85 3,Yc 86 50 [tT 85],oO 87 (.bin .rem .num (tT 86) (kI 7)),oM 10 87] (sQ (Yr [oO 11 (.mov (kI 0))] (.block 4 (.loop (sQ (Yr [oM 88 11,oM 89 10,oO 90 (.bin .lss .num (tT 88) (tT 89))] (.cond (tT 90) .skip (.exit 4))) (sQ (.block 5 (Yr [oM 93 3,
 Yc 94 50 [tT 93],oM 12 94] (Yr [oM 95 3,Yc 96 50 [tT 95],oM 13 96] (Yr [oM 97 3,Yc 98 50 [tT 97],oM 14 98] (Yr [oM 99 3,Yc 100 50 [tT 99],oM 15 100] (Yr [oM 101 12,oO 102 (.bin .rem .num (tT 101) (kI 4)),
 oO 103 (.bin .eql .num (tT 102) (kI 3)),oM 104 13,Ya 105 0 4,Yk 106 105,oO 107 (.bin .rem .num (tT 104) (tT 106)),oO 108 (.bin .add .num (kI 1) (tT 107)),oM 109 11,oO 110 (.build [(.bool false),(.int .u64 0),
 (.int .u64 0),(.int .i64 0),(.int .i64 0)] [(0,1,(tT 103)),(3,1,(tT 108)),(4,1,(tT 109))]),oO 16 (.alloc [(.bool false),(.int .u64 0),(.int .u64 0),(.int .i64 0),(.int .i64 0)]),Ys 5 16 110] (sQ (Yr [Ya 111 0 16,
 Yk 112 111,oO 113 (.una .not (tT 112))] (.cond (tT 113) (Yg [oM 114 14,oM 115 15,oM 116 5,Yc 117 52 [tT 114,tT 115,tT 116],Ya 118 1 16,Ys 2 118 117]) .skip)) (Yg [Ya 119 3 4,Yk 120 119,Yl 121 5 16,oO 122 (.bslice [(.bool false),
 (.int .u64 0),(.int .u64 0),(.int .i64 0),(.int .i64 0)] 1 [(0,(tT 121))]),oO 123 (.append [(.bool false),(.int .u64 0),(.int .u64 0),(.int .i64 0),(.int .i64 0)] 40 (tT 120) (tT 122)),Ya 124 3 4,Ys 1 124 123])))))))) (Yg [oM 91 11,
 oO 92 (.bin .add .num (tT 91) (kI 1)),oM 11 92])))))) (Yr [oM 125 3,Yc 126 50 [tT 125],oO 127 (.bin .rem .num (tT 126) (kI 4)),oM 17 127] (Yr [oM 128 3,Yc 129 50 [tT 128],oO 130 (.bin .rem .num (tT 129) (kI 3)),
 oO 131 (.bin .add .num (kI 1) (tT 130)),oM 18 131] (sQ (Yr [oO 19 (.mov (kI 0))] (.block 6 (.loop (sQ (Yr [oM 132 19,oM 133 17,oO 134 (.bin .lss .num (tT 132) (tT 133))] (.cond (tT 134) .skip (.exit 6))) (sQ (.block 7 (Yr [oM 137 3,
 Yc 138 50 [tT 137],oM 20 138] (Yr [oM 139 3,Yc 140 50 [tT 139],oM 21 140] (Yr [oM 141 20,oM 142 19,Ya 143 0 4,Yk 144 143,oO 145 (.bin .rem .num (tT 142) (tT 144)),oO 146 (.conv .u64 (tT 145)),oO 147 (.bin .shl .num (kI 2) (tT 146)),
 oO 148 (.bin .or .num (tT 141) (tT 147)),oM 149 21,oM 150 5,Yc 151 52 [tT 148,tT 149,tT 150],oO 22 (.alloc [(.int .u64 0),(.int .u64 0)]),Ys 2 22 151] (sQ (.draw [Yd 0 (Yl 152 2 22) 0 0,Yd 1 (Ya 153 1 4) 0 0,
 Yd 2 (Yk 154 153) 2 0,Yd 3 (Ya 155 2 4) 0 0,Yd 4 (Yk 156 155) 8 0,Yd 5 (Yc 157 54 [tT 154,tT 156]) 30 0,Yd 6 (Yc 158 53 [tT 152,tT 157]) 63 1,Yd 7 (oO 159 (.una .not (tT 158))) 127 1]) (.cond (tT 159) (Yg [Ya 160 4 4,
 Yk 161 160,Yl 162 2 22,oO 163 (.bslice [(.int .u64 0),(.int .u64 0)] 1 [(0,(tT 162))]),oO 164 (.append [(.int .u64 0),(.int .u64 0)] 16 (tT 161) (tT 163)),Ya 165 4 4,Ys 1 165 164]) .skip)))))) (Yg [oM 135 19,
 oO 136 (.bin .add .num (tT 135) (kI 1)),oM 19 136])))))) (sQ (Yr [oO 23 (.mov (kI 0))] (.block 8 (.loop (sQ (Yr [oM 166 23,oM 167 18,oO 168 (.bin .lss .num (tT 166) (tT 167))] (.cond (tT 168) .skip (.exit 8))) (sQ (.block 9 (Yr [oM 171 3,
 Yc 172 50 [tT 171],oM 24 172] (Yr [oM 173 3,Yc 174 50 [tT 173],oM 25 174] (.draw [Yd 0 (Ya 175 5 4) 0 1,Yd 1 (Yk 176 175) 1 1,Yd 2 (oM 177 24) 0 0,Yd 3 (oM 178 25) 0 0,Yd 4 (oM 179 5) 0 0,Yd 5 (Yc 180 52 [tT 177,
 tT 178,tT 179]) 28 0,Yd 6 (oO 181 (.bslice [(.int .u64 0),(.int .u64 0)] 1 [(0,(tT 180))])) 60 0,Yd 7 (oO 182 (.append [(.int .u64 0),(.int .u64 0)] 16 (tT 176) (tT 181))) 127 1,Yd 8 (Ya 183 5 4) 255 1,
 Yd 9 (Ys 1 183 182) 511 1])))) (Yg [oM 169 23,oO 170 (.bin .add .num (tT 169) (kI 1)),oM 23 170])))))) (Yr [Yl 184 6 4,Ys 6 2 184] .ret)))))))))))))))
theorem ok20 : FnOk Tryz.prog 20 185 ir20 [.cell 2 true 6] := Yf Tryz.func20 Tryz.ntmps20 mixed
def ir21 : ACode := (Yr [Yb 1 0,oO 2 (.alloc [(.int .i64 0),(.pointer none),nS,nS,nS,nS]),oO 3 (.mov kF)] (sQ (.draw [Yd 0 (Ya 11 0 1) 0 0,Yd 1 (Yk 12 11) 1 0,Yd 2 (Yc 13 18 []) 0 0,Yd 3 (Ya 14 2 1) 0 0,
 Yd 4 (Yk 15 14) 8 0,Yd 5 (Yc 16 11 [tT 15]) 28 0,Yd 6 (Ya 17 4 1) 0 0,Yd 7 (Yk 18 17) 64 0,Yd 8 (Yc 19 23 [tT 18]) 252 0,Yd 9 (Ya 20 5 1) 0 0,Yd 10 (Yk 21 20) 512 0,Yd 11 (Yc 22 23 [tT 21]) 2044 0,Yd 12 (oO 23 (.build [(.int .i64 0),
 (.pointer none),nS,nS,nS,nS] [(0,1,(tT 12)),(1,1,(tT 13)),(2,1,(tT 16)),(4,1,(tT 19)),(5,1,(tT 22))])) 4095 1,Yd 13 (oO 4 (.alloc [(.int .i64 0),(.pointer none),nS,nS,nS,nS])) 0 0,Yd 14 (Ys 6 4 23) 16383 1]) (sQ (Yr [Ya 24 1 1,
 Yk 25 24,Yn 26 25,oO 27 (.mov (kI 0))] (.block 0 (.loop (Yr [oO 28 (.bin .lss .num (tT 27) (tT 26))] (sQ (.cond (tT 28) .skip (.exit 0)) (sQ (.block 1 (Yr [Yi 29 2 25 27,Yl 30 2 29,oO 6 (.alloc [(.int .i64 0),
 (.int .i64 0)]),Ys 2 6 30] (Yr [Ya 32 1 4,Yk 33 32,oO 34 (.iaddrA 2 1 (tT 6) (kI 0)),Yk 35 34,oO 36 (.iaddrA 2 1 (tT 6) (kI 1)),Yk 37 36,Yc 38 55 [tT 33,tT 35,tT 37],oM 31 38,Yx 39 31 0,Yx 40 31 1,oM 7 39,
 oM 8 40] (sQ (Yr [oM 41 8,oO 42 (.bin .neq .num (tT 41) (kI 0))] (.cond (tT 42) (Yr [oO 43 (.build [(.int .i64 0),(.pointer none),nS,nS,nS,nS] []),Ys 6 2 43,oO 3 (.mov kF)] .ret) .skip)) (Yg [oM 44 7,Ya 45 1 4,
 Ys 1 45 44]))))) (Yg [oO 46 (.bin .add .num (tT 27) (kI 1)),oM 27 46]))))))) (sQ (Yr [Ya 47 3 1,Yk 48 47,Yn 49 48,oO 50 (.mov (kI 0))] (.block 2 (.loop (Yr [oO 51 (.bin .lss .num (tT 50) (tT 49))] (sQ (.cond (tT 51) .skip (.exit 2)) (sQ (.block 3 (Yr [Yi 52 5 48 50,
 Yl 53 5 52,oO 10 (.alloc [(.bool false),(.int .u64 0),(.int .u64 0),(.int .i64 0),(.int .i64 0)]),Ys 5 10 53] (.draw [Yd 0 (Ya 54 3 4) 0 0,Yd 1 (Yk 55 54) 1 0,Yd 2 (Ya 56 0 10) 0 0,Yd 3 (Yk 57 56) 4 0,
 Yd 4 (Ya 58 1 10) 0 0,Yd 5 (Yl 59 2 58) 16 0,Yd 6 (Yc 60 56 [tT 59]) 48 0,Yd 7 (Ya 61 3 10) 0 0,Yd 8 (Yk 62 61) 128 0,Yd 9 (Ya 63 4 10) 0 0,Yd 10 (Yk 64 63) 512 0,Yd 11 (oO 65 (.build [(.bool false),nS,
 nS,(.int .i64 0),(.int .i64 0)] [(0,1,(tT 57)),(1,2,(tT 60)),(3,1,(tT 62)),(4,1,(tT 64))])) 2044 0,Yd 12 (oO 66 (.bslice [(.bool false),nS,nS,(.int .i64 0),(.int .i64 0)] 1 [(0,(tT 65))])) 4092 0,Yd 13 (oO 67 (.append [(.bool false),
 nS,nS,(.int .i64 0),(.int .i64 0)] 72 (tT 55) (tT 66))) 8191 1,Yd 14 (Ya 68 3 4) 16383 1,Yd 15 (Ys 1 68 67) 32767 1]))) (Yg [oO 69 (.bin .add .num (tT 50) (kI 1)),oM 50 69]))))))) (sQ (.draw [Yd 0 (Yl 70 6 4) 0 0,
 Yd 1 (Ya 71 1 4) 0 0,Yd 2 (Yk 72 71) 2 0,Yd 3 (oO 73 (.bin .neq .ptr (tT 72) (.const (.pointer none)))) 6 0,Yd 4 (Ys 6 2 70) 1 2,Yd 5 (oM 3 73) 31 1]) .ret)))))
theorem ok21 : FnOk Tryz.prog 21 74 ir21 [.cell 2 true 6, .tmp 3] := Yf Tryz.func21 Tryz.ntmps21 mixed
def ir23 : ACode := (Yr [oO 2 (.mov (.const nS))] (Yr [oO 3 (.mov (.const nS))] (sQ (Yr [oM 6 0,Yn 7 6,oO 8 (.mov (kI 0))] (.block 0 (.loop (Yr [oO 9 (.bin .lss .num (tT 8) (tT 7))] (sQ (.cond (tT 9) .skip (.exit 0)) (sQ (.block 1 (Yr [Yi 10 2 6 8,
 Yl 11 2 10,oO 5 (.alloc [(.int .u64 0),(.int .u64 0)]),Ys 2 5 11] (Yg [oM 12 3,Yl 13 2 5,Yc 14 56 [tT 13],oO 15 (.bslice [nS,nS] 1 [(0,(tT 14))]),oO 16 (.append [nS,nS] 48 (tT 12) (tT 15)),oM 3 16]))) (Yg [oO 17 (.bin .add .num (tT 8) (kI 1)),
 oM 8 17]))))))) (Yr [oM 18 3,oM 2 18] .ret))))
theorem ok23 : FnOk Tryz.prog 23 19 ir23 [.tmp 2] := Yf Tryz.func23 Tryz.ntmps23 mixed
def ir26 : ACode := (Yr [Yb 1 0,oO 2 (.alloc Y1)] (sQ (Yr [Yl 6 6 1,Yc 7 40 [tT 6],oO 8 (.bin .neq .num (tT 7) (kI 0))] (.cond (tT 8) (Yr [oO 9 (.build Y1 []),Ys 32 2 9] .ret) .skip)) (Yr [Yc 10 61 [],
 oM 3 10] (Yr [oM 11 3,Ya 12 0 1,Yk 13 12,oO 14 (.conv .u64 (tT 13)),Yc 15 62 [tT 11,tT 14]] (Yr [oM 16 3,Ya 17 1 1,Yk 18 17,Yc 19 64 [tT 18],Yc 20 63 [tT 16,tT 19]] (Yr [oM 21 3,Ya 22 2 1,Yl 23 1 22,Yc 24 65 [tT 21,
 tT 23]] (Yr [oM 25 3,Ya 26 3 1,Yk 27 26,Yn 28 27,oO 29 (.conv .u64 (tT 28)),Yc 30 62 [tT 25,tT 29]] (sQ (Yr [Ya 31 3 1,Yk 32 31,Yn 33 32,oO 34 (.mov (kI 0))] (.block 0 (.loop (Yr [oO 35 (.bin .lss .num (tT 34) (tT 33))] (sQ (.cond (tT 35) .skip (.exit 0)) (sQ (.block 1 (Yr [Yi 36 5 32 34,
 Yl 37 5 36,oO 5 (.alloc [(.bool false),nS,nS,(.int .i64 0),(.int .i64 0)]),Ys 5 5 37] (Yr [oM 38 3,Ya 39 0 5,Yk 40 39,Yc 41 66 [tT 38,tT 40]] (Yr [oM 42 3,Ya 43 1 5,Yl 44 2 43,Yc 45 67 [tT 42,tT 44]] (Yg [oM 46 3,
 Ya 47 3 5,Yk 48 47,oO 49 (.conv .u64 (tT 48)),Yc 50 62 [tT 46,tT 49]]))))) (Yg [oO 51 (.bin .add .num (tT 34) (kI 1)),oM 34 51]))))))) (Yr [oM 52 3,Ya 53 4 1,Yk 54 53,Yc 55 68 [tT 52,tT 54]] (Yr [oM 56 3,
 Ya 57 5 1,Yk 58 57,Yc 59 68 [tT 56,tT 58]] (Yr [oM 60 3,Yc 61 70 [tT 60],oO 62 (.bslice [nS] 1 [(0,(tT 61))]),⟨(some 63),kC 69 [(.const (.string ⟨#[112,114,111,98,108,101,109]⟩)),tT 62],none⟩,Ys 32 2 63] .ret)))))))))))
theorem ok26 : FnOk Tryz.prog 26 64 ir26 [.cell 2 true 32] := Yf Tryz.func26 Tryz.ntmps26 mixed
def ir27 : ACode := (Yr [Yb 1 0,oO 2 (.mov (kI 0))] (sQ (.block 0 (Yr [Ya 7 33 1,Yk 8 7,Yn 9 8,oO 10 (.bin .gtr .num (tT 9) (kI 10000)),oM 11 10,oF 11 12 (.faddr 34 (tT 1)),oF 11 13 (.load false 1 (tT 12)),
 oF 11 14 (.len (tT 13)),oF 11 15 (.bin .gtr .num (tT 14) (kI 2000)),oO 16 (.pick (tT 11) kT (tT 15)),oM 6 16] (.cond (tT 6) (Yr [oO 2 (.mov (kI 3))] .ret) (Yr [Ya 18 32 1,Yk 19 18,oM 20 19,oT 20 21 (.faddr 34 (tT 1)),
 oT 20 22 (.load false 1 (tT 21)),oT 20 23 (.len (tT 22)),oT 20 24 (.bin .gtr .num (tT 23) (kI 0)),oO 25 (.pick (tT 20) (tT 24) kF),oM 26 25,oF 26 27 (.faddr 32 (tT 1)),oF 26 28 (.load false 1 (tT 27)),
 oF 26 29 (.una .not (tT 28)),oF 26 30 (.mov (tT 29)),oT 30 31 (.faddr 33 (tT 1)),oT 30 32 (.load false 1 (tT 31)),oT 30 33 (.len (tT 32)),oT 30 34 (.bin .gtr .num (tT 33) (kI 0)),oF 26 35 (.pick (tT 30) (tT 34) kF),
 oO 36 (.pick (tT 26) kT (tT 35)),oM 17 36] (.cond (tT 17) (Yr [oO 2 (.mov (kI 6))] .ret) (Yr [Ya 38 33 1,Yk 39 38,Yc 40 71 [tT 39,(.func 72)],oM 37 40] (.cond (tT 37) (Yr [oO 2 (.mov (kI 2))] .ret) .skip))))))) (Yr [Yc 41 73 [kI 64],
 Yc 42 34 [tT 41,kI 0],oO 3 (.alloc [nS]),Ys 1 3 42] (sQ (Yr [Ya 43 34 1,Yk 44 43,Yn 45 44,oO 46 (.mov (kI 0))] (.block 1 (.loop (Yr [oO 47 (.bin .lss .num (tT 46) (tT 45))] (sQ (.cond (tT 47) .skip (.exit 1)) (sQ (.block 2 (Yr [Yi 48 2 44 46,
 Yl 49 2 48,oO 5 (.alloc [nS,nS]),Ys 2 5 49] (sQ (sQ (.draw [Yd 0 (Ya 50 0 5) 0 0,Yd 1 (Yl 51 1 50) 1 0,Yd 2 (Ya 52 1 5) 0 0,Yd 3 (Yl 53 1 52) 4 0,Yd 4 (Yc 54 74 [tT 51,tT 53]) 15 0,Yd 5 (Yl 55 1 3) 0 0,
 Yd 6 (Yc 56 75 [tT 54,tT 55]) 63 1,Yd 7 (oO 57 (.una .not (tT 56))) 127 1]) (.cond (tT 57) (Yr [oO 2 (.mov (kI 2))] .ret) .skip)) (Yr [Yl 58 2 5,Yc 59 76 [tT 58]] (.cond (tT 59) (Yr [oO 2 (.mov (kI 6))] .ret) .skip))))) (Yg [oO 60 (.bin .add .num (tT 46) (kI 1)),
 oM 46 60]))))))) (Yr [oO 2 (.mov (kI 0))] .ret)))))
theorem ok27 : FnOk Tryz.prog 27 61 ir27 [.tmp 2] := Yf Tryz.func27 Tryz.ntmps27 mixed
def ir28 : ACode := (Yr [Yb 2 0,oO 4 (.mov kF)] (Yr [oM 6 1,Yc 7 77 [tT 6],oO 5 (.alloc [nS]),Ys 1 5 7] (sQ (.draw [Yd 0 (Yl 8 1 5) 0 1,Yd 1 (Yc 9 35 [tT 8,kI 0]) 1 1,Yd 2 (oO 10 (.una .not (tT 9))) 3 1,
 Yd 3 (oM 11 10) 7 1,Yd 4 (oT 11 12 (.load true 1 (tT 5))) 15 0,Yd 5 (oT 11 13 (.faddr 0 (tT 2))) 15 0,Yd 6 (oT 11 14 (.load false 1 (tT 13))) 47 0,Yd 7 (oT 11 15 (.bin .add .num (tT 14) (kI 1))) 111 0,
 Yd 8 (oT 11 16 (kC 73 [tT 15])) 239 0,Yd 9 (oT 11 17 (kC 75 [tT 12,tT 16])) 511 1,Yd 10 (oO 18 (.pick (tT 11) (tT 17) kF)) 1023 1,Yd 11 (oM 4 18) 2047 1]) .ret)))
theorem ok28 : FnOk Tryz.prog 28 19 ir28 [.tmp 4] := Yf Tryz.func28 Tryz.ntmps28 mixed
def ir29 : ACode := (Yr [Yb 2 0,oO 4 (.alloc [Yu,(.int .i64 0),(.int .i64 0)])] (Yr [Ya 10 2 2,Yl 11 1 10,oO 5 (.alloc [nS]),Ys 1 5 11] (sQ (Yr [oM 12 1,Yn 13 12,oO 14 (.mov (kI 0))] (.block 0 (.loop (Yr [oO 15 (.bin .lss .num (tT 14) (tT 13))] (sQ (.cond (tT 15) .skip (.exit 0)) (sQ (.block 1 (Yr [oM 16 14,
 Yi 17 1 12 14,Yk 18 17,oM 6 16,oM 7 18] (Yr [Yl 20 6 2,Yl 21 1 5,oM 22 7,Yc 23 39 [tT 20,tT 21,tT 22],oM 19 23,Yx 24 19 0,Yx 25 19 1,oO 8 (.alloc [nS]),Ys 1 8 24,oM 9 25] (sQ (Yr [oM 26 9,oO 27 (.una .not (tT 26))] (.cond (tT 27) (Yr [oM 28 6,
 oM 29 7,oO 30 (.build [Yu,(.int .i64 0),(.int .i64 0)] [(0,1,(.const (.int .u8 4))),(1,1,(tT 28)),(2,1,(tT 29))]),Ys 3 4 30] .ret) .skip)) (Yg [Yl 31 1 8,Ys 1 5 31]))))) (Yg [oO 32 (.bin .add .num (tT 14) (kI 1)),
 oM 14 32]))))))) (sQ (sQ (.draw [Yd 0 (Ya 33 5 2) 0 0,Yd 1 (Yk 34 33) 1 0,Yd 2 (Ya 35 1 2) 0 0,Yd 3 (Yk 36 35) 4 0,Yd 4 (Yl 37 1 5) 0 0,Yd 5 (Yc 38 37 [tT 36,tT 37]) 28 0,Yd 6 (Yc 39 78 [tT 34,tT 38]) 63 1,
 Yd 7 (oO 40 (.una .not (tT 39))) 127 1]) (.cond (tT 40) (Yr [oO 41 (.build [Yu,(.int .i64 0),(.int .i64 0)] [(0,1,(.const (.int .u8 5)))]),Ys 3 4 41] .ret) .skip)) (Yr [oO 42 (.build [Yu,(.int .i64 0),
 (.int .i64 0)] [(0,1,(.const (.int .u8 1)))]),Ys 3 4 42] .ret)))))
theorem ok29 : FnOk Tryz.prog 29 43 ir29 [.cell 4 true 3] := Yf Tryz.func29 Tryz.ntmps29 mixed
def ir30 : ACode := (Yr [Yb 2 0,oO 4 (.alloc [Yu,(.int .i64 0),(.int .i64 0)])] (sQ (Yr [oM 13 1,Yn 14 13,oO 15 (.mov (kI 0))] (.block 0 (.loop (Yr [oO 16 (.bin .lss .num (tT 15) (tT 14))] (sQ (.cond (tT 16) .skip (.exit 0)) (sQ (.block 1 (Yr [oM 17 15,
 Yi 18 2 13 15,Yl 19 2 18,oO 6 (.alloc [nS,nS]),oM 5 17,Ys 2 6 19] (Yr [Yl 20 2 6,Ya 21 2 2,Yl 22 1 21,Yc 23 36 [tT 20,tT 22]] (.cond (tT 23) (Yr [oM 24 5,oO 25 (.build [Yu,(.int .i64 0),(.int .i64 0)] [(0,
 1,(.const (.int .u8 6))),(1,1,(tT 24))]),Ys 3 4 25] .ret) .skip)))) (Yg [oO 26 (.bin .add .num (tT 15) (kI 1)),oM 15 26]))))))) (sQ (Yr [Yl 28 6 2,oM 29 1,Yc 30 79 [tT 28,tT 29],oM 27 30,Yx 31 27 0,Yx 32 27 1,
 oO 7 (.alloc [nS]),Ys 1 7 31,oM 8 32] (Yr [oM 33 8] (.cond (tT 33) (Yr [oO 34 (.build [Yu,(.int .i64 0),(.int .i64 0)] [(0,1,(.const (.int .u8 7)))]),Ys 3 4 34] .ret) .skip))) (sQ (Yr [oM 35 1,Yn 36 35,
 oO 37 (.mov (kI 0))] (.block 2 (.loop (Yr [oO 38 (.bin .lss .num (tT 37) (tT 36))] (sQ (.cond (tT 38) .skip (.exit 2)) (sQ (.block 3 (Yr [oM 39 37,oM 9 39] (Yr [Ya 40 3 2,Yk 41 40,Yn 42 41,oO 43 (.mov (kI 0))] (.block 4 (.loop (Yr [oO 44 (.bin .lss .num (tT 43) (tT 42))] (sQ (.cond (tT 44) .skip (.exit 4)) (sQ (.block 5 (Yr [oM 45 43,
 oM 10 45] (Yr [Yl 47 6 2,oM 48 1,oM 49 9,oM 50 10,Yc 51 80 [tT 47,tT 48,tT 49,tT 50],oM 46 51,Yx 52 46 0,Yx 53 46 1,oO 11 (.alloc [nS]),Ys 1 11 52,oM 12 53] (Yr [oM 54 12] (.cond (tT 54) (Yr [oM 55 9,oM 56 10,
 oO 57 (.build [Yu,(.int .i64 0),(.int .i64 0)] [(0,1,(.const (.int .u8 8))),(1,1,(tT 55)),(2,1,(tT 56))]),Ys 3 4 57] .ret) .skip))))) (Yg [oO 58 (.bin .add .num (tT 43) (kI 1)),oM 43 58]))))))))) (Yg [oO 59 (.bin .add .num (tT 37) (kI 1)),
 oM 37 59]))))))) (Yr [oO 60 (.build [Yu,(.int .i64 0),(.int .i64 0)] [(0,1,(.const (.int .u8 1)))]),Ys 3 4 60] .ret)))))
theorem ok30 : FnOk Tryz.prog 30 61 ir30 [.cell 4 true 3] := Yf Tryz.func30 Tryz.ntmps30 mixed
def ir31 : ACode := (Yr [Yb 1 0,oO 2 (.mov (.const nS))] (Yr [Ya 11 2 1,Yk 12 11,oO 13 (.bslice [(.int .u64 0)] 1 [(0,(tT 12))]),oM 3 13] (sQ (Yr [oO 4 (.mov (kI 0))] (.block 0 (.loop (sQ (Yr [oM 14 4,
 oM 15 3,Yn 16 15,oO 17 (.bin .lss .num (tT 14) (tT 16))] (.cond (tT 17) .skip (.exit 0))) (sQ (.block 1 (Yr [Ya 20 3 1,Yk 21 20,Yn 22 21,oO 23 (.mov (kI 0))] (.block 2 (.loop (Yr [oO 24 (.bin .lss .num (tT 23) (tT 22))] (sQ (.cond (tT 24) .skip (.exit 2)) (sQ (.block 3 (Yr [oM 25 23,
 oM 5 25] (sQ (.draw [Yd 0 (Yl 27 6 1) 0 0,Yd 1 (oM 28 3) 0 0,Yd 2 (oM 29 4) 0 0,Yd 3 (Yi 30 1 28 29) 6 0,Yd 4 (Yk 31 30) 14 0,Yd 5 (oM 32 5) 0 0,Yd 6 (Yc 33 81 [tT 27,tT 31,tT 32]) 63 1,Yd 7 (oM 26 33) 127 1,
 Yd 8 (Yx 34 26 0) 255 1,Yd 9 (Yx 35 26 1) 255 1,Yd 10 (oM 6 34) 511 1,Yd 11 (oM 7 35) 2047 1]) (sQ (Yr [oM 36 7,oO 37 (.una .not (tT 36))] (.cond (tT 37) (.exit 3) .skip)) (Yr [oO 8 (.mov kF)] (sQ (Yr [oM 38 3,
 Yn 39 38,oO 40 (.mov (kI 0))] (.block 4 (.loop (Yr [oO 41 (.bin .lss .num (tT 40) (tT 39))] (sQ (.cond (tT 41) .skip (.exit 4)) (sQ (.block 5 (Yr [Yi 42 1 38 40,Yk 43 42,oM 10 43] (Yr [oM 44 10,oM 45 6,
 oO 46 (.bin .eql .num (tT 44) (tT 45))] (.cond (tT 46) (Yg [oO 8 (.mov kT)]) .skip)))) (Yg [oO 47 (.bin .add .num (tT 40) (kI 1)),oM 40 47]))))))) (Yr [oM 48 8,oO 49 (.una .not (tT 48))] (.cond (tT 49) (Yg [oM 50 3,
 oM 51 6,oO 52 (.bslice [(.int .u64 0)] 1 [(0,(tT 51))]),oO 53 (.append [(.int .u64 0)] 8 (tT 50) (tT 52)),oM 3 53]) .skip)))))))) (Yg [oO 54 (.bin .add .num (tT 23) (kI 1)),oM 23 54])))))))) (Yg [oM 18 4,
 oO 19 (.bin .add .num (tT 18) (kI 1)),oM 4 19])))))) (Yr [oM 55 3,oM 2 55] .ret))))
theorem ok31 : FnOk Tryz.prog 31 56 ir31 [.tmp 2] := Yf Tryz.func31 Tryz.ntmps31 mixed
def ir32 : ACode := (Yr [Yb 2 0,oO 4 (.mov kF)] (sQ (.draw [Yd 0 (Ya 5 5 2) 0 0,Yd 1 (Yk 6 5) 1 0,Yd 2 (Ya 7 1 2) 0 0,Yd 3 (Yk 8 7) 4 0,Yd 4 (oM 9 1) 0 0,Yd 5 (Yc 10 54 [tT 8,tT 9]) 28 0,Yd 6 (Yc 11 82 [tT 6,
 tT 10]) 63 1,Yd 7 (oM 4 11) 127 1]) .ret))
theorem ok32 : FnOk Tryz.prog 32 12 ir32 [.tmp 4] := Yf Tryz.func32 Tryz.ntmps32 mixed
def ir33 : ACode := (Yr [oO 2 (.mov (.const nS))] (Yr [oO 3 (.mov (.const nS))] (sQ (Yr [oO 4 (.mov (kI 0))] (.block 0 (.loop (sQ (Yr [oM 5 4,oO 6 (.bin .lss .num (tT 5) (kI 64))] (.cond (tT 6) .skip (.exit 0))) (sQ (.block 1 (Yr [oM 9 0,
 oM 10 4,oO 11 (.bin .shr .num (tT 9) (tT 10)),oO 12 (.bin .rem .num (tT 11) (.const (.int .u64 2))),oO 13 (.bin .eql .num (tT 12) (.const (.int .u64 1)))] (.cond (tT 13) (Yg [oM 14 3,oM 15 4,oO 16 (.bslice [(.int .i64 0)] 1 [(0,
 (tT 15))]),oO 17 (.append [(.int .i64 0)] 8 (tT 14) (tT 16)),oM 3 17]) .skip))) (Yg [oM 7 4,oO 8 (.bin .add .num (tT 7) (kI 1)),oM 4 8])))))) (Yr [oM 18 3,oM 2 18] .ret))))
theorem ok33 : FnOk Tryz.prog 33 19 ir33 [.tmp 2] := Yf Tryz.func33 Tryz.ntmps33 mixed
def ir34 : ACode := (Yr [Yb 2 0,oO 4 (.alloc [nS])] (sQ (Yr [Yl 6 1 2,oM 7 1,Yc 8 35 [tT 6,tT 7],oO 9 (.una .not (tT 8))] (.cond (tT 9) (Yr [Yl 10 1 2,Ys 1 4 10] .ret) .skip)) (Yr [oO 11 (.bslice [(.int .u64 0)] 0 []),
 Ya 12 0 2,Yk 13 12,oO 14 (.append [(.int .u64 0)] 8 (tT 11) (tT 13)),oM 5 14] (sQ (.draw [Yd 0 (oM 15 5) 0 1,Yd 1 (oM 16 1) 0 1,Yd 2 (oO 17 (.bin .quo .num (tT 16) (kI 64))) 2 1,Yd 3 (Yi 18 1 15 17) 7 1,
 Yd 4 (Yk 19 18) 15 1,Yd 5 (oM 20 1) 0 0,Yd 6 (oO 21 (.bin .rem .num (tT 20) (kI 64))) 32 0,Yd 7 (oO 22 (.bin .shl .num (.const (.int .u64 1)) (tT 21))) 96 0,Yd 8 (oO 23 (.bin .andNot .num (tT 19) (tT 22))) 255 1,
 Yd 9 (Yi 24 1 15 17) 511 1,Yd 10 (Ys 1 24 23) 1023 1]) (Yr [oM 25 5,Yc 26 47 [tT 25],Ys 1 4 26] .ret)))))
theorem ok34 : FnOk Tryz.prog 34 27 ir34 [.cell 4 true 1] := Yf Tryz.func34 Tryz.ntmps34 mixed
def ir35 : ACode := (Yr [Yb 2 0,oO 4 (.mov kF)] (Yr [oM 5 1,oO 6 (.bin .geq .num (tT 5) (kI 0)),oM 7 6,oT 7 8 (.mov (tT 1)),oT 7 9 (.bin .leq .num (tT 8) (kI 4095)),oO 10 (.pick (tT 7) (tT 9) kF),oM 11 10,
 oT 11 12 (.load true 1 (tT 2)),oT 11 13 (.mov (tT 1)),oT 11 14 (.bin .quo .num (tT 13) (kI 64)),oT 11 15 (kC 83 [tT 12,tT 14]),oT 11 16 (.mov (tT 1)),oT 11 17 (.bin .rem .num (tT 16) (kI 64)),oT 11 18 (.bin .shr .num (tT 15) (tT 17)),
 oT 11 19 (.bin .and .num (tT 18) (.const (.int .u64 1))),oT 11 20 (.bin .eql .num (tT 19) (.const (.int .u64 1))),oO 21 (.pick (tT 11) (tT 20) kF),oM 4 21] .ret))
theorem ok35 : FnOk Tryz.prog 35 22 ir35 [.tmp 4] := Yf Tryz.func35 Tryz.ntmps35 mixed
def ir36 : ACode := (Yr [Yb 2 0,Yb 3 1,oO 4 (.mov kF)] (Yr [Ya 5 0 2,Yl 6 1 5,Yl 7 1 3,Yc 8 75 [tT 6,tT 7],oM 9 8,oT 9 10 (.faddr 1 (tT 2)),oT 9 11 (.load true 1 (tT 10)),oT 9 12 (.load true 1 (tT 3)),
 oT 9 13 (kC 84 [tT 11,tT 12]),oT 9 14 (.una .not (tT 13)),oO 15 (.pick (tT 9) (tT 14) kF),oM 4 15] .ret))
theorem ok36 : FnOk Tryz.prog 36 16 ir36 [.tmp 4] := Yf Tryz.func36 Tryz.ntmps36 mixed
def ir37 : ACode := (Yr [Yb 2 0,Yb 3 1,oO 4 (.alloc [nS])] (Yr [oO 5 (.alloc [nS])] (sQ (Yr [Yl 7 1 3,Yc 8 85 [tT 7]] (.block 0 (.range (tT 8) [9] [(6,(tT 9))] (.block 1 (.draw [Yd 0 (Yl 10 1 5) 0 0,Yd 1 (Yk 11 2) 0 0,
 Yd 2 (oM 12 6) 0 0,Yd 3 (Yc 13 86 [tT 11,tT 12]) 6 0,Yd 4 (Yc 14 74 [tT 10,tT 13]) 15 1,Yd 5 (Ys 1 5 14) 31 1]))))) (Yr [Yl 15 1 5,Ys 1 4 15] .ret))))
theorem ok37 : FnOk Tryz.prog 37 16 ir37 [.cell 4 true 1] := Yf Tryz.func37 Tryz.ntmps37 mixed
def ir38 : ACode := (Yr [Yb 2 0,Yb 3 1,oO 4 (.mov kF)] (sQ (.draw [Yd 0 (Ya 5 1 2) 0 1,Yd 1 (Yk 6 5) 1 1,Yd 2 (oO 7 (.bin .neq .ptr (tT 6) (.const (.pointer none)))) 3 1,Yd 3 (oM 8 7) 7 1,Yd 4 (oT 8 9 (.faddr 4 (tT 2))) 15 0,
 Yd 5 (oT 8 10 (.load false 1 (tT 9))) 31 0,Yd 6 (oT 8 11 (.faddr 1 (tT 2))) 15 0,Yd 7 (oT 8 12 (.load false 1 (tT 11))) 79 0,Yd 8 (oT 8 13 (.load true 1 (tT 3))) 15 0,Yd 9 (oT 8 14 (kC 37 [tT 12,tT 13])) 463 0,
 Yd 10 (oT 8 15 (kC 78 [tT 10,tT 14])) 1023 1,Yd 11 (oT 8 16 (.una .not (tT 15))) 2047 1,Yd 12 (oO 17 (.pick (tT 8) (tT 16) kF)) 4095 1,Yd 13 (oM 4 17) 8191 1]) .ret))
theorem ok38 : FnOk Tryz.prog 38 18 ir38 [.tmp 4] := Yf Tryz.func38 Tryz.ntmps38 mixed
def ir39 : ACode := (Yr [Yb 3 0,Yb 4 1,oO 6 (.alloc [nS]),oO 7 (.mov kF)] (sQ (Yr [Ya 10 1 3,Yk 11 10,oO 12 (.bin .eql .ptr (tT 11) (.const (.pointer none))),oM 13 12,oF 13 14 (.mov (tT 2)),oF 13 15 (.bin .lss .num (tT 14) (kI 0)),
 oO 16 (.pick (tT 13) kT (tT 15)),oM 17 16,oF 17 18 (.mov (tT 2)),oF 17 19 (.faddr 3 (tT 3)),oF 17 20 (.load false 1 (tT 19)),oF 17 21 (.len (tT 20)),oF 17 22 (.bin .geq .num (tT 18) (tT 21)),oO 23 (.pick (tT 17) kT (tT 22))] (.cond (tT 23) (Yr [oO 24 (.build [nS] []),
 Ys 1 6 24,oO 7 (.mov kF)] .ret) .skip)) (Yr [Ya 25 3 3,Yk 26 25,oM 27 2,Yi 28 5 26 27,Yl 29 5 28,oO 8 (.alloc [(.bool false),nS,nS,(.int .i64 0),(.int .i64 0)]),Ys 5 8 29] (Yr [Yl 30 1 4,Ya 31 3 8,Yk 32 31,
 Yc 33 15 [tT 30,tT 32],oO 9 (.alloc [nS]),Ys 1 9 33] (sQ (Yr [Ya 34 0 8,Yk 35 34] (.cond (tT 35) (Yg [Yl 36 1 4,Ya 37 3 8,Yk 38 37,Yc 39 34 [tT 36,tT 38],Ys 1 9 39]) .skip)) (sQ (sQ (.draw [Yd 0 (Yl 40 1 9) 0 0,
 Yd 1 (Yl 41 1 4) 0 0,Yd 2 (Yc 42 87 [tT 40,tT 41]) 3 1,Yd 3 (oM 43 42) 7 1,Yd 4 (oF 43 44 (.load true 6 (tT 3))) 15 0,Yd 5 (oF 43 45 (.load true 1 (tT 9))) 15 0,Yd 6 (oF 43 46 (kC 88 [tT 44,tT 45])) 63 1,
 Yd 7 (oF 43 47 (.una .not (tT 46))) 127 1,Yd 8 (oO 48 (.pick (tT 43) kT (tT 47))) 255 1,Yd 9 (oM 49 48) 511 1,Yd 10 (oF 49 50 (.faddr 0 (tT 8))) 1023 1,Yd 11 (oF 49 51 (.load false 1 (tT 50))) 2047 1,Yd 12 (oF 49 52 (.una .not (tT 51))) 4095 1,
 Yd 13 (oF 49 53 (.mov (tT 52))) 8191 1,Yd 14 (oT 53 54 (.faddr 1 (tT 8))) 16383 0,Yd 15 (oT 53 55 (.load true 2 (tT 54))) 32767 0,Yd 16 (oT 53 56 (.faddr 1 (tT 3))) 16383 0,Yd 17 (oT 53 57 (.load false 1 (tT 56))) 81919 0,
 Yd 18 (oT 53 58 (.load true 1 (tT 4))) 16383 0,Yd 19 (oT 53 59 (kC 37 [tT 57,tT 58])) 475135 0,Yd 20 (oT 53 60 (kC 36 [tT 55,tT 59])) 1048575 1,Yd 21 (oT 53 61 (.una .not (tT 60))) 2097151 1,Yd 22 (oF 49 62 (.pick (tT 53) (tT 61) kF)) 4194303 1,
 Yd 23 (oO 63 (.pick (tT 49) kT (tT 62))) 8388607 1]) (.cond (tT 63) (Yr [oO 64 (.build [nS] []),Ys 1 6 64,oO 7 (.mov kF)] .ret) .skip)) (Yr [Yl 65 1 9,Ys 1 6 65,oO 7 (.mov kT)] .ret)))))))
theorem ok39 : FnOk Tryz.prog 39 66 ir39 [.cell 6 true 1, .tmp 7] := Yf Tryz.func39 Tryz.ntmps39 mixed
def ir40 : ACode := (Yr [Yb 1 0,oO 2 (.mov (kI 0))] (Yr [oO 3 (.mov (.func 89))] (sQ (.block 0 (Yr [Ya 5 1 1,Yk 6 5,oO 7 (.bin .eql .ptr (tT 6) (.const (.pointer none))),oM 8 7,oF 8 9 (.faddr 0 (tT 1)),
 oF 8 10 (.load false 1 (tT 9)),oF 8 11 (.bin .lss .num (tT 10) (kI 1)),oO 12 (.pick (tT 8) kT (tT 11)),oM 13 12,oF 13 14 (.faddr 0 (tT 1)),oF 13 15 (.load false 1 (tT 14)),oF 13 16 (.bin .gtr .num (tT 15) (kI 63)),
 oO 17 (.pick (tT 13) kT (tT 16)),oM 4 17] (.cond (tT 4) (Yr [oO 2 (.mov (kI 1))] .ret) (Yr [Ya 19 3 1,Yk 20 19,Yn 21 20,oO 22 (.bin .gtr .num (tT 21) (kI 64)),oM 23 22,oF 23 24 (.faddr 4 (tT 1)),oF 23 25 (.load false 1 (tT 24)),
 oF 23 26 (.len (tT 25)),oF 23 27 (.bin .gtr .num (tT 26) (kI 2000)),oO 28 (.pick (tT 23) kT (tT 27)),oM 29 28,oF 29 30 (.faddr 5 (tT 1)),oF 29 31 (.load false 1 (tT 30)),oF 29 32 (.len (tT 31)),oF 29 33 (.bin .gtr .num (tT 32) (kI 2000)),
 oO 34 (.pick (tT 29) kT (tT 33)),oM 18 34] (.cond (tT 18) (Yr [oO 2 (.mov (kI 3))] .ret) (Yr [Yl 36 6 1,Yc 37 91 [tT 36],oO 38 (.una .not (tT 37)),oM 35 38] (.cond (tT 35) (Yr [oO 2 (.mov (kI 4))] .ret) (Yr [Yl 40 6 1,
 Yc 41 93 [tT 40],Yc 42 92 [tT 41,(.func 76)],oM 43 42,oF 43 44 (.faddr 3 (tT 1)),oF 43 45 (.load false 1 (tT 44)),oF 43 46 (.mov (tT 3)),oF 43 47 (kC 94 [tT 45,tT 46]),oF 43 48 (.una .not (tT 47)),oO 49 (.pick (tT 43) kT (tT 48)),
 oM 39 49] (.cond (tT 39) (Yr [oO 2 (.mov (kI 6))] .ret) (Yr [Yl 51 6 1,Ya 52 2 1,Yl 53 1 52,Yc 54 38 [tT 51,tT 53],oO 55 (.una .not (tT 54)),oM 50 55] (.cond (tT 50) (Yr [oO 2 (.mov (kI 7))] .ret) .skip))))))))))) (Yr [oO 2 (.mov (kI 0))] .ret))))
theorem ok40 : FnOk Tryz.prog 40 56 ir40 [.tmp 2] := Yf Tryz.func40 Tryz.ntmps40 mixed
def ir41 : ACode := (Yr [Yb 1 0,oO 2 (.mov (.const (.pointer none))),oO 3 (.mov (kI 0))] (Yr [Yl 17 6 1,Yc 18 95 [tT 17],oM 16 18,Yx 19 16 0,Yx 20 16 1,oM 4 19,oM 5 20] (sQ (Yr [oM 21 5,oO 22 (.bin .neq .num (tT 21) (kI 0))] (.cond (tT 22) (Yr [oM 23 5,
 oO 2 (.mov (.const (.pointer none))),oM 3 23] .ret) .skip)) (Yr [Yl 24 6 1,oM 25 4,oO 26 (.build [(.int .i64 0),(.pointer none),nS,nS,nS,nS,nS,nS,nS] [(0,6,(tT 24)),(6,1,(tT 25))]),Yb 27 26,oM 6 27] (sQ (Yr [Ya 28 3 1,
 Yk 29 28,Yn 30 29,oO 31 (.mov (kI 0))] (.block 0 (.loop (Yr [oO 32 (.bin .lss .num (tT 31) (tT 30))] (sQ (.cond (tT 32) .skip (.exit 0)) (sQ (.block 1 (Yr [Yi 33 5 29 31,Yl 34 5 33,oO 8 (.alloc [(.bool false),
 nS,nS,(.int .i64 0),(.int .i64 0)]),Ys 5 8 34] (Yr [Yl 36 6 1,Ya 37 1 8,Yl 38 2 37,Yc 39 96 [tT 36,tT 38],oM 35 39,Yx 40 35 0,Yx 41 35 1,oM 9 40,oM 10 41] (sQ (Yr [oM 42 10,oO 43 (.bin .neq .num (tT 42) (kI 0))] (.cond (tT 43) (Yr [oM 44 10,
 oO 2 (.mov (.const (.pointer none))),oM 3 44] .ret) .skip)) (Yr [oO 45 (.bslice [nS,nS] 0 []),oM 46 4,oO 47 (.append [nS,nS] 48 (tT 45) (tT 46)),oM 11 47] (sQ (Yr [oM 48 4,Yn 49 48,oO 50 (.mov (kI 0))] (.block 2 (.loop (Yr [oO 51 (.bin .lss .num (tT 50) (tT 49))] (sQ (.cond (tT 51) .skip (.exit 2)) (sQ (.block 3 (Yr [Yi 52 2 48 50,
 Yl 53 2 52,oO 13 (.alloc [nS,nS]),Ys 2 13 53] (Yr [Yl 55 2 13,Ya 56 3 8,Yk 57 56,Ya 58 0 8,Yk 59 58,Yc 60 97 [tT 55,tT 57,tT 59],oM 54 60,Yx 61 54 0,Yx 62 54 1,oO 14 (.alloc [nS,nS]),Ys 2 14 61,oM 15 62] (Yr [oM 63 15] (.cond (tT 63) (Yg [oM 64 11,
 Yl 65 2 14,oO 66 (.bslice [nS,nS] 1 [(0,(tT 65))]),oO 67 (.append [nS,nS] 48 (tT 64) (tT 66)),oM 11 67]) .skip))))) (Yg [oO 68 (.bin .add .num (tT 50) (kI 1)),oM 50 68]))))))) (.draw [Yd 0 (oM 69 6) 0 0,
 Yd 1 (oM 70 6) 0 0,Yd 2 (oM 71 6) 0 0,Yd 3 (oO 72 (.nilck (tT 71))) 4 0,Yd 4 (Ya 73 7 72) 12 0,Yd 5 (Yk 74 73) 28 0,Yd 6 (oM 75 9) 0 0,Yd 7 (oO 76 (.bslice [nS] 1 [(0,(tT 75))])) 64 0,Yd 8 (oO 77 (.append [nS] 24 (tT 74) (tT 76))) 252 504,
 Yd 9 (oM 78 6) 0 0,Yd 10 (oO 79 (.nilck (tT 78))) 512 0,Yd 11 (Ya 80 8 79) 1536 0,Yd 12 (Yk 81 80) 3584 0,Yd 13 (oM 82 11) 0 0,Yd 14 (oO 83 (.bslice [nS] 1 [(0,(tT 82))])) 8192 0,Yd 15 (oO 84 (.append [nS] 24 (tT 81) (tT 83))) 32764 1,
 Yd 16 (oO 85 (.nilck (tT 69))) 65533 1,Yd 17 (Ya 86 7 85) 131069 1,Yd 18 (Ys 1 86 77) 262141 1,Yd 19 (oO 87 (.nilck (tT 70))) 524287 1,Yd 20 (Ya 88 8 87) 1048575 1,Yd 21 (Ys 1 88 84) 2097151 1]))))))) (Yg [oO 89 (.bin .add .num (tT 31) (kI 1)),
 oM 31 89]))))))) (Yr [oM 90 6,oM 2 90,oO 3 (.mov (kI 0))] .ret))))))
theorem ok41 : FnOk Tryz.prog 41 91 ir41 [.tmp 2, .tmp 3] := Yf Tryz.func41 Tryz.ntmps41 mixed
def ir42 : ACode := (Yr [Yb 1 0,oO 2 (.mov (.const nS)),oO 3 (.mov (kI 0))] (Yr [Yl 8 6 1,Yc 9 95 [tT 8],oM 7 9,Yx 10 7 0,Yx 11 7 1,oM 4 10,oM 5 11] (sQ (Yr [oM 12 5,oO 13 (.bin .neq .num (tT 12) (kI 0))] (.cond (tT 13) (Yr [oM 14 5,
 oO 2 (.mov (.const nS)),oM 3 14] .ret) .skip)) (Yr [Yl 16 6 1,Ya 17 5 1,Yk 18 17,Yc 19 98 [tT 16,tT 18],oM 15 19,Yx 20 15 0,Yx 21 15 1,oM 6 20,oM 5 21] (sQ (Yr [oM 22 5,oO 23 (.bin .neq .num (tT 22) (kI 0))] (.cond (tT 23) (Yr [oM 24 5,
 oO 2 (.mov (.const nS)),oM 3 24] .ret) .skip)) (Yr [oM 26 6,oM 27 4,Yc 28 99 [tT 26,tT 27],oM 25 28,Yx 29 25 0,Yx 30 25 1,oM 6 29,oM 5 30] (sQ (Yr [oM 31 5,oO 32 (.bin .neq .num (tT 31) (kI 0))] (.cond (tT 32) (Yr [oM 33 5,
 oO 2 (.mov (.const nS)),oM 3 33] .ret) .skip)) (Yr [oM 34 6,Yc 35 100 [tT 34],Yx 36 35 0,Yx 37 35 1,oM 2 36,oM 3 37] .ret))))))))
theorem ok42 : FnOk Tryz.prog 42 38 ir42 [.tmp 2, .tmp 3] := Yf Tryz.func42 Tryz.ntmps42 mixed
def ir43 : ACode := (Yr [Yb 4 1,Yb 5 2,oO 6 (.mov (kI 0))] (sQ (sQ (.draw [Yd 0 (Yl 7 2 4) 0 0,Yd 1 (oM 8 0) 0 0,Yd 2 (oO 9 (.nilck (tT 8))) 2 0,Yd 3 (Ya 10 0 9) 6 0,Yd 4 (Yk 11 10) 14 0,Yd 5 (Yc 12 101 [tT 7,
 tT 11]) 31 1]) (.cond (tT 12) (Yr [oO 6 (.mov (kI 0))] .ret) .skip)) (sQ (.draw [Yd 0 (oM 13 0) 0 0,Yd 1 (oM 14 0) 0 0,Yd 2 (oM 15 0) 0 0,Yd 3 (oO 16 (.nilck (tT 15))) 4 0,Yd 4 (Ya 17 0 16) 12 0,Yd 5 (Yk 18 17) 28 0,
 Yd 6 (Yl 19 2 4) 0 0,Yd 7 (oO 20 (.bslice [nS,nS] 1 [(0,(tT 19))])) 64 0,Yd 8 (oO 21 (.append [nS,nS] 48 (tT 18) (tT 20))) 252 504,Yd 9 (oM 22 0) 0 0,Yd 10 (oO 23 (.nilck (tT 22))) 512 0,Yd 11 (Ya 24 1 23) 1536 0,
 Yd 12 (Yk 25 24) 3584 0,Yd 13 (Yl 26 2 5) 0 0,Yd 14 (oO 27 (.bslice [(.int .i64 0),(.int .i64 0)] 1 [(0,(tT 26))])) 8192 0,Yd 15 (oO 28 (.append [(.int .i64 0),(.int .i64 0)] 16 (tT 25) (tT 27))) 32764 1,
 Yd 16 (oO 29 (.nilck (tT 13))) 65533 1,Yd 17 (Ya 30 0 29) 131069 1,Yd 18 (Ys 1 30 21) 262141 1,Yd 19 (oO 31 (.nilck (tT 14))) 524287 1,Yd 20 (Ya 32 1 31) 1048575 1,Yd 21 (Ys 1 32 28) 2097151 1]) (sQ (sQ (.draw [Yd 0 (oM 33 0) 0 0,
 Yd 1 (oO 34 (.nilck (tT 33))) 1 0,Yd 2 (Ya 35 0 34) 3 0,Yd 3 (Yk 36 35) 7 0,Yd 4 (Yn 37 36) 15 0,Yd 5 (oM 38 0) 0 0,Yd 6 (oO 39 (.nilck (tT 38))) 32 0,Yd 7 (Ya 40 2 39) 96 0,Yd 8 (Yk 41 40) 224 0,Yd 9 (oO 42 (.bin .gtr .num (tT 37) (tT 41))) 511 1,
 Yd 10 (oM 43 42) 1023 1,Yd 11 (oF 43 44 (.mov (tT 0))) 2047 1,Yd 12 (oF 43 45 (.nilck (tT 44))) 4095 1,Yd 13 (oF 43 46 (.faddr 0 (tT 45))) 8191 1,Yd 14 (oF 43 47 (.load false 1 (tT 46))) 16383 1,Yd 15 (oF 43 48 (.len (tT 47))) 32767 1,
 Yd 16 (oF 43 49 (.bin .gtr .num (tT 48) (kI 2000))) 65535 1,Yd 17 (oO 50 (.pick (tT 43) kT (tT 49))) 131071 1]) (.cond (tT 50) (Yr [oO 6 (.mov (kI 3))] .ret) .skip)) (Yr [oO 6 (.mov (kI 0))] .ret)))))
theorem ok43 : FnOk Tryz.prog 43 51 ir43 [.tmp 6] := Yf Tryz.func43 Tryz.ntmps43 mixed
def ir44 : ACode := (Yr [oO 4 (.mov (.const nS))] (Yr [oO 5 (.mov (.const nS))] (sQ (.block 0 (.loop (sQ (Yr [oM 6 0,oO 7 (.nilck (tT 6)),Ya 8 1 7,Yk 9 8,oM 10 1,Yi 11 2 9 10,Ya 12 0 11,Yk 13 12,oO 14 (.bin .geq .num (tT 13) (kI 0))] (.cond (tT 14) .skip (.exit 0))) (.block 1 (Yr [oM 15 5,
 oM 16 0,oO 17 (.nilck (tT 16)),Ya 18 1 17,Yk 19 18,oM 20 1,Yi 21 2 19 20,Ya 22 0 21,Yk 23 22,oO 24 (.bslice [(.int .i64 0)] 1 [(0,(tT 23))]),oO 25 (.append [(.int .i64 0)] 8 (tT 15) (tT 24)),oM 5 25] (Yg [oM 26 0,
 oO 27 (.nilck (tT 26)),Ya 28 1 27,Yk 29 28,oM 30 1,Yi 31 2 29 30,Ya 32 1 31,Yk 33 32,oM 1 33])))))) (Yr [oM 34 5,oM 4 34] .ret))))
theorem ok44 : FnOk Tryz.prog 44 35 ir44 [.tmp 4] := Yf Tryz.func44 Tryz.ntmps44 mixed
def ir45 : ACode := (Yr [oO 6 (.mov (kI 0))] (sQ (Yr [oM 13 0,oO 14 (.nilck (tT 13)),Ya 15 0 14,Ya 16 3 15,Yk 17 16,Yn 18 17,oO 19 (.mov (kI 0))] (.block 0 (.loop (Yr [oO 20 (.bin .lss .num (tT 19) (tT 18))] (sQ (.cond (tT 20) .skip (.exit 0)) (sQ (.block 1 (Yr [oM 21 19,
 oM 7 21] (Yr [oM 23 0,oM 24 1,oO 25 (.nilck (tT 24)),Ya 26 0 25,Yk 27 26,oM 28 2,Yi 29 2 27 28,Yl 30 2 29,oM 31 7,Yc 32 102 [tT 23,tT 30,tT 31],oM 22 32,Yx 33 22 0,Yx 34 22 1,oM 8 33,oM 9 34] (sQ (Yr [oM 35 9,
 oO 36 (.bin .neq .num (tT 35) (kI 0))] (.cond (tT 36) (Yr [oM 37 9,oM 6 37] .ret) .skip)) (Yr [oM 38 8,Yn 39 38,oO 40 (.mov (kI 0))] (.block 2 (.loop (Yr [oO 41 (.bin .lss .num (tT 40) (tT 39))] (sQ (.cond (tT 41) .skip (.exit 2)) (sQ (.block 3 (Yr [Yi 42 2 38 40,
 Yl 43 2 42,oO 11 (.alloc [nS,nS]),Ys 2 11 43] (Yr [oM 44 1,Yl 45 2 11,oM 46 7,oM 47 2,oO 48 (.build [(.int .i64 0),(.int .i64 0)] [(0,1,(tT 46)),(1,1,(tT 47))]),Yc 49 43 [tT 44,tT 45,tT 48],oM 12 49] (Yr [oM 50 12,
 oO 51 (.bin .neq .num (tT 50) (kI 0))] (.cond (tT 51) (Yr [oM 52 12,oM 6 52] .ret) .skip))))) (Yg [oO 53 (.bin .add .num (tT 40) (kI 1)),oM 40 53]))))))))))) (Yg [oO 54 (.bin .add .num (tT 19) (kI 1)),
 oM 19 54]))))))) (Yr [oO 6 (.mov (kI 0))] .ret)))
theorem ok45 : FnOk Tryz.prog 45 55 ir45 [.tmp 6] := Yf Tryz.func45 Tryz.ntmps45 mixed
def ir46 : ACode := (Yr [oO 2 (.mov (.const nS))] (sQ (Yr [oM 3 0,oO 4 (.isnil false (tT 3))] (.cond (tT 4) (Yr [oO 2 (.mov (.const nS))] .ret) .skip)) (Yr [oO 5 (.bslice [nS,nS] 0 []),oM 6 0,oO 7 (.append [nS,
 nS] 48 (tT 5) (tT 6)),oM 2 7] .ret)))
theorem ok46 : FnOk Tryz.prog 46 8 ir46 [.tmp 2] := Yf Tryz.func46 Tryz.ntmps46 mixed
def ir47 : ACode := (Yr [oO 2 (.alloc [nS])] (sQ (.block 0 (.loop (sQ (Yr [oM 3 0,Yn 4 3,oO 5 (.bin .gtr .num (tT 4) (kI 0)),oM 6 5,oT 6 7 (.mov (tT 0)),oT 6 8 (.mov (tT 0)),oT 6 9 (.len (tT 8)),oT 6 10 (.bin .sub .num (tT 9) (kI 1)),
 oT 6 11 (.iaddr 1 (tT 7) (tT 10)),oT 6 12 (.load false 1 (tT 11)),oT 6 13 (.bin .eql .num (tT 12) (.const (.int .u64 0))),oO 14 (.pick (tT 6) (tT 13) kF)] (.cond (tT 14) .skip (.exit 0))) (.block 1 (Yg [oM 15 0,
 oM 16 0,Yn 17 16,oO 18 (.bin .sub .num (tT 17) (kI 1)),oO 19 (.slc 1 (tT 15) none (some (tT 18)) none),oM 0 19]))))) (Yr [oM 20 0,oO 21 (.build [nS] [(0,1,(tT 20))]),Ys 1 2 21] .ret)))
theorem ok47 : FnOk Tryz.prog 47 22 ir47 [.cell 2 true 1] := Yf Tryz.func47 Tryz.ntmps47 mixed
def ir48 : ACode := (Yr [oO 4 (.mov (.const (.pointer none))),oO 5 (.mov (kI 0))] (sQ (Yr [oM 10 0,oO 11 (.bin .lss .num (tT 10) (kI 0)),oM 12 11,oF 12 13 (.mov (tT 0)),oF 12 14 (.bin .gtr .num (tT 13) (kI 256)),
 oO 15 (.pick (tT 12) kT (tT 14))] (.cond (tT 15) (Yr [oO 4 (.mov (.const (.pointer none))),oO 5 (.mov (kI 1))] .ret) .skip)) (sQ (Yr [oM 16 1,Yn 17 16,oO 18 (.mov (kI 0))] (.block 0 (.loop (Yr [oO 19 (.bin .lss .num (tT 18) (tT 17))] (sQ (.cond (tT 19) .skip (.exit 0)) (sQ (.block 1 (Yr [Yi 20 2 16 18,
 Yl 21 2 20,oO 7 (.alloc [(.int .i64 0),(.int .i64 0)]),Ys 2 7 21] (Yr [oO 22 (.iaddrA 2 1 (tT 7) (kI 0)),Yk 23 22,oO 24 (.iaddrA 2 1 (tT 7) (kI 1)),Yk 25 24,oO 26 (.mn (tT 23) (tT 25)),oO 27 (.bin .lss .num (tT 26) (kI 0)),
 oM 28 27,oF 28 29 (.iaddrA 2 1 (tT 7) (kI 0)),oF 28 30 (.load false 1 (tT 29)),oF 28 31 (.iaddrA 2 1 (tT 7) (kI 1)),oF 28 32 (.load false 1 (tT 31)),oF 28 33 (.mx (tT 30) (tT 32)),oF 28 34 (.mov (tT 0)),
 oF 28 35 (.bin .geq .num (tT 33) (tT 34)),oO 36 (.pick (tT 28) kT (tT 35))] (.cond (tT 36) (Yr [oO 4 (.mov (.const (.pointer none))),oO 5 (.mov (kI 2))] .ret) .skip)))) (Yg [oO 37 (.bin .add .num (tT 18) (kI 1)),
 oM 18 37]))))))) (Yr [oO 38 (.bslice [(.int .i64 0),(.int .i64 0)] 0 []),oM 39 1,oO 40 (.append [(.int .i64 0),(.int .i64 0)] 16 (tT 38) (tT 39)),oM 8 40] (Yr [oM 41 8,Yc 42 103 [tT 41,(.func 104)]] (Yr [oM 43 0,
 oM 44 8,Yc 45 106 [tT 44],Yc 46 105 [tT 45],oO 47 (.build [(.int .i64 0),nS,nS,nS,nS] [(0,1,(tT 43)),(1,1,(tT 46))]),Yb 48 47,oM 9 48] (sQ (Yr [oM 49 9,Yc 50 107 [tT 49],oO 51 (.una .not (tT 50))] (.cond (tT 51) (Yr [oO 4 (.mov (.const (.pointer none))),
 oO 5 (.mov (kI 16))] .ret) .skip)) (Yr [oM 52 9,Yc 53 108 [tT 52]] (Yr [oM 54 9,oM 4 54,oO 5 (.mov (kI 0))] .ret)))))))))
theorem ok48 : FnOk Tryz.prog 48 55 ir48 [.tmp 4, .tmp 5] := Yf Tryz.func48 Tryz.ntmps48 mixed
def ir49 : ACode := (Yr [oO 2 (.mov (.const nS))] (sQ (Yr [oM 3 0,oO 4 (.isnil false (tT 3))] (.cond (tT 4) (Yr [oO 2 (.mov (.const nS))] .ret) .skip)) (Yr [oO 5 (.bslice [(.int .i64 0)] 0 []),oM 6 0,oO 7 (.append [(.int .i64 0)] 8 (tT 5) (tT 6)),
 oM 2 7] .ret)))
theorem ok49 : FnOk Tryz.prog 49 8 ir49 [.tmp 2] := Yf Tryz.func49 Tryz.ntmps49 mixed
def ir50 : ACode := (Yr [oO 2 (.mov (kI 0))] (Yr [oM 3 0,oO 4 (.nilck (tT 3)),Ya 5 1 4,Yk 6 5,oO 7 (.bin .add .num (tT 6) (kI 1)),oO 8 (.nilck (tT 3)),Ya 9 1 8,Ys 1 9 7] (sQ (sQ (.draw [Yd 0 (oM 10 0) 0 0,
 Yd 1 (oO 11 (.nilck (tT 10))) 1 0,Yd 2 (Ya 12 1 11) 3 0,Yd 3 (Yk 13 12) 7 0,Yd 4 (oM 14 0) 0 0,Yd 5 (oO 15 (.nilck (tT 14))) 16 0,Yd 6 (Ya 16 0 15) 48 0,Yd 7 (Yk 17 16) 112 0,Yd 8 (Yn 18 17) 240 0,Yd 9 (oO 19 (.bin .gtr .num (tT 13) (tT 18))) 511 1]) (.cond (tT 19) (Yr [oO 2 (.mov (kI 0))] .ret) .skip)) (sQ (.draw [Yd 0 (oM 20 0) 0 0,
 Yd 1 (oO 21 (.nilck (tT 20))) 1 0,Yd 2 (Ya 22 0 21) 3 0,Yd 3 (Yk 23 22) 7 0,Yd 4 (oM 24 0) 0 0,Yd 5 (oO 25 (.nilck (tT 24))) 16 0,Yd 6 (Ya 26 1 25) 48 0,Yd 7 (Yk 27 26) 112 0,Yd 8 (oO 28 (.bin .sub .num (tT 27) (kI 1))) 240 0,
 Yd 9 (Yi 29 1 23 28) 511 1,Yd 10 (Yk 30 29) 1023 1,Yd 11 (oO 31 (.conv .i64 (tT 30))) 2047 1,Yd 12 (oM 2 31) 4095 1]) .ret))))
theorem ok50 : FnOk Tryz.prog 50 32 ir50 [.tmp 2] := Yf Tryz.func50 Tryz.ntmps50 mixed
def ir51 : ACode := (Yr [oO 6 (.mov (.const nS)),oO 7 (.mov (kI 0))] (sQ (Yr [oM 9 1,Yc 10 109 [tT 9],oO 11 (.una .not (tT 10)),oM 12 11,oF 12 13 (.mov (tT 2)),oF 12 14 (kC 109 [tT 13]),oF 12 15 (.una .not (tT 14)),
 oO 16 (.pick (tT 12) kT (tT 15)),oM 17 16,oF 17 18 (.mov (tT 1)),oF 17 19 (.mov (tT 2)),oF 17 20 (.bin .eql .num (tT 18) (tT 19)),oO 21 (.pick (tT 17) kT (tT 20))] (.cond (tT 21) (Yr [oM 22 0,oM 6 22,oO 7 (.mov (kI 1))] .ret) .skip)) (sQ (Yr [oM 23 0,
 oM 24 1,oM 25 2,Yc 26 110 [tT 23,tT 24,tT 25]] (.cond (tT 26) (Yr [oM 27 0,oM 6 27,oO 7 (.mov (kI 5))] .ret) .skip)) (sQ (Yr [oM 28 0,oM 29 2,oM 30 1,Yc 31 111 [tT 28,tT 29,tT 30]] (.cond (tT 31) (Yr [oM 32 0,
 oM 6 32,oO 7 (.mov (kI 16))] .ret) .skip)) (Yr [oO 8 (.mov (kI 0))] (sQ (.block 0 (.loop (sQ (Yr [oM 33 8,oM 34 0,Yn 35 34,oO 36 (.bin .lss .num (tT 33) (tT 35)),oM 37 36,oT 37 38 (.mov (tT 0)),oT 37 39 (.mov (tT 8)),
 oT 37 40 (.iaddr 2 (tT 38) (tT 39)),oT 37 41 (.iaddrA 2 1 (tT 40) (kI 0)),oT 37 42 (.load false 1 (tT 41)),oT 37 43 (.mov (tT 1)),oT 37 44 (.bin .lss .num (tT 42) (tT 43)),oT 37 45 (.mov (tT 44)),oF 45 46 (.mov (tT 0)),
 oF 45 47 (.mov (tT 8)),oF 45 48 (.iaddr 2 (tT 46) (tT 47)),oF 45 49 (.iaddrA 2 1 (tT 48) (kI 0)),oF 45 50 (.load false 1 (tT 49)),oF 45 51 (.mov (tT 1)),oF 45 52 (.bin .eql .num (tT 50) (tT 51)),oF 45 53 (.mov (tT 52)),
 oT 53 54 (.mov (tT 0)),oT 53 55 (.mov (tT 8)),oT 53 56 (.iaddr 2 (tT 54) (tT 55)),oT 53 57 (.iaddrA 2 1 (tT 56) (kI 1)),oT 53 58 (.load false 1 (tT 57)),oT 53 59 (.mov (tT 2)),oT 53 60 (.bin .lss .num (tT 58) (tT 59)),
 oF 45 61 (.pick (tT 53) (tT 60) kF),oT 37 62 (.pick (tT 45) kT (tT 61)),oO 63 (.pick (tT 37) (tT 62) kF)] (.cond (tT 63) .skip (.exit 0))) (.block 1 (Yg [oM 64 8,oO 65 (.bin .add .num (tT 64) (kI 1)),oM 8 65]))))) (sQ (.draw [Yd 0 (oO 66 (.bslice [(.int .i64 0),
 (.int .i64 0)] 0 [])) 0 0,Yd 1 (oM 67 0) 0 0,Yd 2 (oM 68 8) 0 0,Yd 3 (oO 69 (.slc 2 (tT 67) none (some (tT 68)) none)) 6 0,Yd 4 (oO 70 (.append [(.int .i64 0),(.int .i64 0)] 16 (tT 66) (tT 69))) 15 30,
 Yd 5 (oM 71 1) 0 0,Yd 6 (oM 72 2) 0 0,Yd 7 (oO 73 (.build [(.int .i64 0),(.int .i64 0)] [(0,1,(tT 71)),(1,1,(tT 72))])) 96 0,Yd 8 (oO 74 (.bslice [(.int .i64 0),(.int .i64 0)] 1 [(0,(tT 73))])) 224 0,Yd 9 (oO 75 (.append [(.int .i64 0),
 (.int .i64 0)] 16 (tT 70) (tT 74))) 511 1022,Yd 10 (oM 76 0) 0 0,Yd 11 (oM 77 8) 0 0,Yd 12 (oO 78 (.slc 2 (tT 76) (some (tT 77)) none none)) 3072 0,Yd 13 (oO 79 (.append [(.int .i64 0),(.int .i64 0)] 16 (tT 75) (tT 78))) 8191 1,
 Yd 14 (oM 6 79) 16383 1,Yd 15 (oO 7 (.mov (kI 0))) 32767 1]) .ret)))))))
theorem ok51 : FnOk Tryz.prog 51 80 ir51 [.tmp 6, .tmp 7] := Yf Tryz.func51 Tryz.ntmps51 mixed
def ir52 : ACode := (Yr [oO 6 (.alloc [(.int .u64 0),(.int .u64 0)])] (Yr [oM 9 0,oO 10 (.conv .u8 (tT 9)),oM 11 0,oO 12 (.bin .shr .num (tT 11) (.const (.int .u64 1))),oM 13 0,oO 14 (.bin .shl .num (tT 13) (.const (.int .u64 3))),
 oO 15 (.bin .or .num (tT 12) (tT 14)),oO 16 (.conv .u8 (tT 15)),oO 17 (.bin .and .num (tT 10) (tT 16)),oM 18 2,oO 19 (.bin .and .num (tT 17) (tT 18)),oM 7 19] (Yr [oM 20 1,oO 21 (.conv .u8 (tT 20)),oM 22 1,
 oO 23 (.bin .shr .num (tT 22) (.const (.int .u64 2))),oM 24 1,oO 25 (.bin .shl .num (tT 24) (.const (.int .u64 1))),oO 26 (.bin .or .num (tT 23) (tT 25)),oO 27 (.conv .u8 (tT 26)),oO 28 (.bin .and .num (tT 21) (tT 27)),
 oM 29 2,oO 30 (.bin .and .num (tT 28) (tT 29)),oM 31 7,oO 32 (.bin .andNot .num (tT 30) (tT 31)),oM 8 32] (Yr [oM 33 7,oO 34 (.conv .u64 (tT 33)),oM 35 8,oO 36 (.conv .u64 (tT 35)),oO 37 (.build [(.int .u64 0),
 (.int .u64 0)] [(0,1,(tT 34)),(1,1,(tT 36))]),Ys 2 6 37] .ret))))
theorem ok52 : FnOk Tryz.prog 52 38 ir52 [.cell 6 true 2] := Yf Tryz.func52 Tryz.ntmps52 mixed
def ir53 : ACode := (Yr [Yb 2 0,oO 4 (.mov kF)] (Yr [oM 5 1,Ya 6 0 2,Yk 7 6,oO 8 (.bin .and .num (tT 5) (tT 7)),Ya 9 0 2,Yk 10 9,oO 11 (.bin .eql .num (tT 8) (tT 10)),oM 12 11,oT 12 13 (.mov (tT 1)),oT 12 14 (.faddr 1 (tT 2)),
 oT 12 15 (.load false 1 (tT 14)),oT 12 16 (.bin .and .num (tT 13) (tT 15)),oT 12 17 (.bin .eql .num (tT 16) (.const (.int .u64 0))),oO 18 (.pick (tT 12) (tT 17) kF),oM 4 18] .ret))
theorem ok53 : FnOk Tryz.prog 53 19 ir53 [.tmp 4] := Yf Tryz.func53 Tryz.ntmps53 mixed
def ir54 : ACode := (Yr [oO 4 (.mov (.const (.int .u64 0)))] (Yr [oO 5 (.mov (.const (.int .u64 0)))] (sQ (Yr [oO 6 (.mov (kI 1))] (.block 0 (.loop (sQ (Yr [oM 7 6,oO 8 (.bin .lss .num (tT 7) (kI 64))] (.cond (tT 8) .skip (.exit 0))) (sQ (.block 1 (Yr [oM 11 1,
 oM 12 6,oO 13 (.bin .shr .num (tT 11) (tT 12)),oO 14 (.bin .rem .num (tT 13) (.const (.int .u64 2))),oO 15 (.bin .eql .num (tT 14) (.const (.int .u64 1)))] (.cond (tT 15) (Yg [oM 16 5,oM 17 0,oM 18 6,Yc 19 112 [tT 17,
 tT 18],oO 20 (.bin .or .num (tT 16) (tT 19)),oM 5 20]) .skip))) (Yg [oM 9 6,oO 10 (.bin .add .num (tT 9) (kI 1)),oM 6 10])))))) (Yr [oM 21 5,oM 4 21] .ret))))
theorem ok54 : FnOk Tryz.prog 54 22 ir54 [.tmp 4] := Yf Tryz.func54 Tryz.ntmps54 mixed
def ir55 : ACode := (Yr [oO 6 (.mov (.const (.pointer none))),oO 7 (.mov (kI 0))] (sQ (Yr [oM 10 0,oO 11 (.bin .eql .ptr (tT 10) (.const (.pointer none))),oM 12 11,oF 12 13 (.mov (tT 1)),oF 12 14 (kC 113 [tT 13]),
 oF 12 15 (.una .not (tT 14)),oO 16 (.pick (tT 12) kT (tT 15)),oM 17 16,oF 17 18 (.mov (tT 2)),oF 17 19 (kC 113 [tT 18]),oF 17 20 (.una .not (tT 19)),oO 21 (.pick (tT 17) kT (tT 20)),oM 22 21,oF 22 23 (.mov (tT 1)),
 oF 22 24 (.mov (tT 2)),oF 22 25 (.bin .eql .num (tT 23) (tT 24)),oO 26 (.pick (tT 22) kT (tT 25))] (.cond (tT 26) (Yr [oO 6 (.mov (.const (.pointer none))),oO 7 (.mov (kI 1))] .ret) .skip)) (Yr [oM 28 0,
 oO 29 (.nilck (tT 28)),Ya 30 0 29,Yk 31 30,oM 32 1,oM 33 2,Yc 34 114 [tT 31,tT 32,tT 33],oM 27 34,Yx 35 27 0,Yx 36 27 1,oM 8 35,oM 9 36] (sQ (Yr [oM 37 9,oO 38 (.bin .neq .num (tT 37) (kI 0))] (.cond (tT 38) (Yr [oM 39 9,
 oO 6 (.mov (.const (.pointer none))),oM 7 39] .ret) .skip)) (Yr [oM 40 8,oO 41 (.build [(.pointer none)] [(0,1,(tT 40))]),Yb 42 41,oM 6 42,oO 7 (.mov (kI 0))] .ret)))))
theorem ok55 : FnOk Tryz.prog 55 43 ir55 [.tmp 6, .tmp 7] := Yf Tryz.func55 Tryz.ntmps55 mixed
def ir56 : ACode := (Yr [Yb 1 0,oO 2 (.alloc [nS,nS])] (sQ (.draw [Yd 0 (Ya 3 0 1) 0 0,Yd 1 (Yk 4 3) 1 0,Yd 2 (Yc 5 11 [tT 4]) 3 0,Yd 3 (Ya 6 1 1) 0 0,Yd 4 (Yk 7 6) 8 0,Yd 5 (Yc 8 11 [tT 7]) 31 1,Yd 6 (oO 9 (.build [nS,
 nS] [(0,1,(tT 5)),(1,1,(tT 8))])) 63 1,Yd 7 (Ys 2 2 9) 127 1]) .ret))
theorem ok56 : FnOk Tryz.prog 56 10 ir56 [.cell 2 true 2] := Yf Tryz.func56 Tryz.ntmps56 mixed
def ir61 : ACode := (Yr [oO 0 (.mov (.const (.pointer none)))] (Yr [oO 1 (.build [nS] []),Yb 2 1,oM 0 2] .ret))
theorem ok61 : FnOk Tryz.prog 61 3 ir61 [.tmp 0] := Yf Tryz.func61 Tryz.ntmps61 mixed
def ir62 : ACode := (Yg [oM 4 0,oM 5 1,Yc 6 118 [tT 5],Yc 7 117 [tT 4,tT 6]])
theorem ok62 : FnOk Tryz.prog 62 8 ir62 [] := Yf Tryz.func62 Tryz.ntmps62 mixed
def ir63 : ACode := (Yr [oM 4 0,oM 5 1,Yn 6 5,oO 7 (.conv .u64 (tT 6)),Yc 8 62 [tT 4,tT 7]] (Yg [oM 9 0,oM 10 1,Yc 11 117 [tT 9,tT 10]]))
theorem ok63 : FnOk Tryz.prog 63 12 ir63 [] := Yf Tryz.func63 Tryz.ntmps63 mixed
def ir64 : ACode := (Yr [oO 2 (.mov (.const nS))] (sQ (Yr [oM 7 0,oO 8 (.bin .eql .ptr (tT 7) (.const (.pointer none)))] (.cond (tT 8) (Yr [oO 2 (.mov (.const nS))] .ret) .skip)) (Yr [Yc 9 61 [],oM 3 9] (Yr [oM 10 0,
 Yc 11 119 [tT 10],oM 4 11] (Yr [oM 12 3,oM 13 4,Yn 14 13,oO 15 (.conv .u64 (tT 14)),Yc 16 62 [tT 12,tT 15]] (sQ (Yr [oM 17 4,Yn 18 17,oO 19 (.mov (kI 0))] (.block 0 (.loop (Yr [oO 20 (.bin .lss .num (tT 19) (tT 18))] (sQ (.cond (tT 20) .skip (.exit 0)) (sQ (.block 1 (Yr [Yi 21 2 17 19,
 Yl 22 2 21,oO 6 (.alloc [(.int .i64 0),(.int .i64 0)]),Ys 2 6 22] (Yr [oM 23 3,oO 24 (.iaddrA 2 1 (tT 6) (kI 0)),Yk 25 24,oO 26 (.conv .u64 (tT 25)),Yc 27 62 [tT 23,tT 26]] (Yg [oM 28 3,oO 29 (.iaddrA 2 1 (tT 6) (kI 1)),
 Yk 30 29,oO 31 (.conv .u64 (tT 30)),Yc 32 62 [tT 28,tT 31]])))) (Yg [oO 33 (.bin .add .num (tT 19) (kI 1)),oM 19 33]))))))) (Yr [oM 34 3,Yc 35 70 [tT 34],oM 2 35] .ret)))))))
theorem ok64 : FnOk Tryz.prog 64 36 ir64 [.tmp 2] := Yf Tryz.func64 Tryz.ntmps64 mixed
def ir65 : ACode := (Yr [Yb 3 1] (Yg [oM 4 0,Yl 5 1 3,Yc 6 120 [tT 5],Yc 7 63 [tT 4,tT 6]]))
theorem ok65 : FnOk Tryz.prog 65 8 ir65 [] := Yf Tryz.func65 Tryz.ntmps65 mixed
def ir66 : ACode := (sQ (Yr [oM 4 1] (.cond (tT 4) (Yr [oM 5 0,oO 6 (.bslice [Yu] 1 [(0,(.const (.int .u8 1)))]),Yc 7 117 [tT 5,tT 6]] .ret) .skip)) (Yg [oM 8 0,oO 9 (.bslice [Yu] 1 [(0,(.const Yu))]),
 Yc 10 117 [tT 8,tT 9]]))
theorem ok66 : FnOk Tryz.prog 66 11 ir66 [] := Yf Tryz.func66 Tryz.ntmps66 mixed
def ir67 : ACode := (Yr [Yb 3 1] (Yr [oM 4 0,Ya 5 0 3,Yl 6 1 5,Yc 7 65 [tT 4,tT 6]] (Yg [oM 8 0,Ya 9 1 3,Yl 10 1 9,Yc 11 65 [tT 8,tT 10]])))
theorem ok67 : FnOk Tryz.prog 67 12 ir67 [] := Yf Tryz.func67 Tryz.ntmps67 mixed
def ir68 : ACode := (Yr [oM 6 0,oM 7 1,Yn 8 7,oO 9 (.conv .u64 (tT 8)),Yc 10 62 [tT 6,tT 9]] (Yr [oM 11 1,Yn 12 11,oO 13 (.mov (kI 0))] (.block 0 (.loop (Yr [oO 14 (.bin .lss .num (tT 13) (tT 12))] (sQ (.cond (tT 14) .skip (.exit 0)) (sQ (.block 1 (Yr [Yi 15 2 11 13,
 Yl 16 2 15,oO 5 (.alloc [nS,nS]),Ys 2 5 16] (Yg [oM 17 0,Yl 18 2 5,Yc 19 67 [tT 17,tT 18]]))) (Yg [oO 20 (.bin .add .num (tT 13) (kI 1)),oM 13 20]))))))))
theorem ok68 : FnOk Tryz.prog 68 21 ir68 [] := Yf Tryz.func68 Tryz.ntmps68 mixed
def ir69 : ACode := (Yr [oO 4 (.alloc Y1)] (Yr [Yc 8 61 [],oM 5 8] (Yr [oM 9 5,oM 10 0,Yc 11 121 [tT 9,tT 10]] (sQ (Yr [oM 12 1,Yn 13 12,oO 14 (.mov (kI 0))] (.block 0 (.loop (Yr [oO 15 (.bin .lss .num (tT 14) (tT 13))] (sQ (.cond (tT 15) .skip (.exit 0)) (sQ (.block 1 (Yr [Yi 16 1 12 14,
 Yk 17 16,oM 7 17] (Yg [oM 18 5,oM 19 7,Yc 20 63 [tT 18,tT 19]]))) (Yg [oO 21 (.bin .add .num (tT 14) (kI 1)),oM 14 21]))))))) (Yr [oM 22 5,Yc 23 70 [tT 22],Yc 24 122 [tT 23],Ys 32 4 24] .ret)))))
theorem ok69 : FnOk Tryz.prog 69 25 ir69 [.cell 4 true 32] := Yf Tryz.func69 Tryz.ntmps69 mixed
def ir70 : ACode := (Yr [oO 2 (.mov (.const nS))] (sQ (Yr [oM 3 0,oO 4 (.bin .eql .ptr (tT 3) (.const (.pointer none)))] (.cond (tT 4) (Yr [oO 2 (.mov (.const nS))] .ret) .skip)) (Yr [oM 5 0,oO 6 (.nilck (tT 5)),
 Ya 7 0 6,Yk 8 7,Yc 9 123 [tT 8],oM 2 9] .ret)))
theorem ok70 : FnOk Tryz.prog 70 10 ir70 [.tmp 2] := Yf Tryz.func70 Tryz.ntmps70 mixed
def ir71 : ACode := (Yr [oO 4 (.mov kF)] (Yr [oM 5 0,oM 6 1,Yc 7 124 [tT 5,tT 6],oO 8 (.bin .geq .num (tT 7) (kI 0)),oM 4 8] .ret))
theorem ok71 : FnOk Tryz.prog 71 9 ir71 [.tmp 4] := Yf Tryz.func71 Tryz.ntmps71 mixed
def ir72 : ACode := (Yr [oO 2 (.mov kF)] (Yr [oM 3 0,oO 4 (.bin .lss .num (tT 3) (kI 0)),oM 5 4,oF 5 6 (.mov (tT 0)),oF 5 7 (.bin .geq .num (tT 6) (kI 64)),oO 8 (.pick (tT 5) kT (tT 7)),oM 2 8] .ret))
theorem ok72 : FnOk Tryz.prog 72 9 ir72 [.tmp 2] := Yf Tryz.func72 Tryz.ntmps72 mixed
def ir73 : ACode := (Yr [oO 2 (.alloc [nS])] (Yr [oM 5 0,oO 6 (.mx (tT 5) (kI 0)),oO 7 (.mn (tT 6) (kI 4096)),oM 0 7] (Yr [oM 8 0,oO 9 (.bin .add .num (tT 8) (kI 63)),oO 10 (.bin .quo .num (tT 9) (kI 64)),
 oO 11 (.mslice [(.int .u64 0)] 8 (tT 10) (tT 10)),oM 3 11] (sQ (Yr [oM 12 3,Yn 13 12,oO 14 (.mov (kI 0))] (.block 0 (.loop (Yr [oO 15 (.bin .lss .num (tT 14) (tT 13))] (sQ (.cond (tT 15) .skip (.exit 0)) (sQ (.block 1 (Yr [oM 16 14,
 oM 4 16] (Yg [oM 17 3,oM 18 4,Yi 19 1 17 18,⟨none,.store 1 (tT 19) (.const (.int .u64 18446744073709551615)),none⟩]))) (Yg [oO 20 (.bin .add .num (tT 14) (kI 1)),oM 14 20]))))))) (sQ (Yr [oM 21 0,oO 22 (.bin .rem .num (tT 21) (kI 64)),
 oO 23 (.bin .gtr .num (tT 22) (kI 0))] (.cond (tT 23) (Yg [oM 24 3,oM 25 3,Yn 26 25,oO 27 (.bin .sub .num (tT 26) (kI 1)),oM 28 0,oO 29 (.bin .rem .num (tT 28) (kI 64)),oO 30 (.bin .shl .num (.const (.int .u64 1)) (tT 29)),
 oO 31 (.bin .sub .num (tT 30) (.const (.int .u64 1))),Yi 32 1 24 27,Ys 1 32 31]) .skip)) (Yr [oM 33 3,oO 34 (.build [nS] [(0,1,(tT 33))]),Ys 1 2 34] .ret))))))
theorem ok73 : FnOk Tryz.prog 73 35 ir73 [.cell 2 true 1] := Yf Tryz.func73 Tryz.ntmps73 mixed
def ir74 : ACode := (Yr [Yb 2 0,Yb 3 1,oO 4 (.alloc [nS])] (Yr [Ya 7 0 2,Yk 8 7,Yn 9 8,Ya 10 0 3,Yk 11 10,Yn 12 11,oO 13 (.mx (tT 9) (tT 12)),oO 14 (.mslice [(.int .u64 0)] 8 (tT 13) (tT 13)),oM 5 14] (sQ (Yr [oM 15 5,
 Yn 16 15,oO 17 (.mov (kI 0))] (.block 0 (.loop (Yr [oO 18 (.bin .lss .num (tT 17) (tT 16))] (sQ (.cond (tT 18) .skip (.exit 0)) (sQ (.block 1 (Yr [oM 19 17,oM 6 19] (.draw [Yd 0 (oM 20 5) 0 0,Yd 1 (oM 21 6) 0 0,
 Yd 2 (Yl 22 1 2) 0 0,Yd 3 (oM 23 6) 0 0,Yd 4 (Yc 24 83 [tT 22,tT 23]) 12 0,Yd 5 (Yl 25 1 3) 0 0,Yd 6 (oM 26 6) 0 0,Yd 7 (Yc 27 83 [tT 25,tT 26]) 124 1,Yd 8 (oO 28 (.bin .or .num (tT 24) (tT 27))) 252 1,
 Yd 9 (Yi 29 1 20 21) 511 1,Yd 10 (Ys 1 29 28) 1023 1]))) (Yg [oO 30 (.bin .add .num (tT 17) (kI 1)),oM 17 30]))))))) (Yr [oM 31 5,oO 32 (.build [nS] [(0,1,(tT 31))]),Ys 1 4 32] .ret))))
theorem ok74 : FnOk Tryz.prog 74 33 ir74 [.cell 4 true 1] := Yf Tryz.func74 Tryz.ntmps74 mixed
def ir75 : ACode := (Yr [Yb 2 0,Yb 3 1,oO 4 (.mov kF)] (sQ (Yr [Ya 7 0 2,Yk 8 7,Yn 9 8,oO 10 (.mov (kI 0))] (.block 0 (.loop (Yr [oO 11 (.bin .lss .num (tT 10) (tT 9))] (sQ (.cond (tT 11) .skip (.exit 0)) (sQ (.block 1 (Yr [oM 12 10,
 Yi 13 1 8 10,Yk 14 13,oM 5 12,oM 6 14] (Yr [oM 15 6,Yl 16 1 3,oM 17 5,Yc 18 83 [tT 16,tT 17],oO 19 (.bin .andNot .num (tT 15) (tT 18)),oO 20 (.bin .neq .num (tT 19) (.const (.int .u64 0)))] (.cond (tT 20) (Yr [oO 4 (.mov kF)] .ret) .skip)))) (Yg [oO 21 (.bin .add .num (tT 10) (kI 1)),
 oM 10 21]))))))) (Yr [oO 4 (.mov kT)] .ret)))
theorem ok75 : FnOk Tryz.prog 75 22 ir75 [.tmp 4] := Yf Tryz.func75 Tryz.ntmps75 mixed
def ir76 : ACode := (Yr [Yb 1 0,oO 2 (.mov kF)] (Yr [Ya 3 0 1,Yl 4 1 3,Ya 5 1 1,Yl 6 1 5,Yc 7 84 [tT 4,tT 6],oM 2 7] .ret))
theorem ok76 : FnOk Tryz.prog 76 8 ir76 [.tmp 2] := Yf Tryz.func76 Tryz.ntmps76 mixed
def ir77 : ACode := (Yr [oO 2 (.alloc [nS])] (Yr [oO 3 (.alloc [nS])] (sQ (Yr [oM 6 0,Yn 7 6,oO 8 (.mov (kI 0))] (.block 0 (.loop (Yr [oO 9 (.bin .lss .num (tT 8) (tT 7))] (sQ (.cond (tT 9) .skip (.exit 0)) (sQ (.block 1 (Yr [Yi 10 2 6 8,
 Yl 11 2 10,oO 5 (.alloc [nS,nS]),Ys 2 5 11] (.draw [Yd 0 (Yl 12 1 3) 0 0,Yd 1 (Ya 13 0 5) 0 0,Yd 2 (Yl 14 1 13) 2 0,Yd 3 (Yc 15 74 [tT 12,tT 14]) 7 0,Yd 4 (Ya 16 1 5) 0 0,Yd 5 (Yl 17 1 16) 16 0,Yd 6 (Yc 18 74 [tT 15,
 tT 17]) 63 1,Yd 7 (Ys 1 3 18) 127 1]))) (Yg [oO 19 (.bin .add .num (tT 8) (kI 1)),oM 8 19]))))))) (Yr [Yl 20 1 3,Ys 1 2 20] .ret))))
theorem ok77 : FnOk Tryz.prog 77 21 ir77 [.cell 2 true 1] := Yf Tryz.func77 Tryz.ntmps77 mixed
def ir78 : ACode := (Yr [Yb 3 1,oO 4 (.mov kF)] (Yr [oM 5 0,oO 6 (.mkfn 125 [tT 3]),Yc 7 92 [tT 5,tT 6],oM 4 7] .ret))
theorem ok78 : FnOk Tryz.prog 78 8 ir78 [.tmp 4] := Yf Tryz.func78 Tryz.ntmps78 mixed
def ir79 : ACode := (Yr [Yb 2 0,oO 4 (.alloc [nS]),oO 5 (.mov kF)] (Yr [Yl 6 6 2,Ya 7 4 2,Yk 8 7,oO 9 (.build [(.bool false),(.bool false),(.bool false),(.int .i64 0),nS,nS] [(0,1,kT),(5,1,(tT 8))]),Ya 10 5 2,
 Yk 11 10,oO 12 (.build [(.bool false),(.bool false),(.bool false),(.int .i64 0),nS,nS] [(0,1,kT),(4,1,(tT 11)),(2,1,kT)]),oM 13 1,oO 14 (.build [(.bool false),(.bool false),(.bool false),(.int .i64 0),
 nS,nS] [(5,1,(tT 13))]),oO 15 (.bslice [(.bool false),(.bool false),(.bool false),(.int .i64 0),nS,nS] 3 [(0,(tT 9)),(1,(tT 12)),(2,(tT 14))]),Yc 16 126 [tT 6,tT 15],Yx 17 16 0,Yx 18 16 1,Ys 1 4 17,oM 5 18] .ret))
theorem ok79 : FnOk Tryz.prog 79 19 ir79 [.cell 4 true 1, .tmp 5] := Yf Tryz.func79 Tryz.ntmps79 mixed
def ir80 : ACode := (Yr [Yb 4 0,oO 8 (.alloc [nS]),oO 9 (.mov kF)] (Yr [Ya 12 3 4,Yk 13 12,oM 14 3,Yi 15 5 13 14,Yl 16 5 15,oO 10 (.alloc [(.bool false),nS,nS,(.int .i64 0),(.int .i64 0)]),Ys 5 10 16] (Yr [Ya 17 3 10,
 Yk 18 17,oO 19 (.bslice [(.int .i64 0)] 1 [(0,(tT 18))]),Yc 20 17 [tT 19],oO 21 (.build [nS,nS] [(1,1,(tT 20))]),oO 11 (.alloc [nS,nS]),Ys 2 11 21] (sQ (Yr [Ya 22 0 10,Yk 23 22] (.cond (tT 23) (Yg [Ya 24 3 10,
 Yk 25 24,oO 26 (.bslice [(.int .i64 0)] 1 [(0,(tT 25))]),Yc 27 17 [tT 26],oO 28 (.build [nS,nS] [(0,1,(tT 27))]),Ys 2 11 28]) .skip)) (sQ (.draw [Yd 0 (Yl 29 6 4) 0 0,Yd 1 (Ya 30 4 4) 0 0,Yd 2 (Yk 31 30) 2 0,
 Yd 3 (oO 32 (.build [(.bool false),(.bool false),(.bool false),(.int .i64 0),nS,nS] [(0,1,kT),(5,1,(tT 31))])) 6 0,Yd 4 (oM 33 1) 0 0,Yd 5 (oO 34 (.build [(.bool false),(.bool false),(.bool false),(.int .i64 0),
 nS,nS] [(5,1,(tT 33))])) 16 0,Yd 6 (Yl 35 2 11) 0 0,Yd 7 (oO 36 (.bslice [nS,nS] 1 [(0,(tT 35))])) 64 0,Yd 8 (oO 37 (.build [(.bool false),(.bool false),(.bool false),(.int .i64 0),nS,nS] [(4,1,(tT 36)),
 (2,1,kT)])) 192 0,Yd 9 (Ya 38 1 10) 0 0,Yd 10 (Yl 39 2 38) 512 0,Yd 11 (oO 40 (.bslice [nS,nS] 1 [(0,(tT 39))])) 1536 0,Yd 12 (oO 41 (.build [(.bool false),(.bool false),(.bool false),(.int .i64 0),nS,
 nS] [(0,1,kT),(4,1,(tT 40)),(2,1,kT)])) 3584 0,Yd 13 (Ya 42 3 10) 0 0,Yd 14 (Yk 43 42) 8192 0,Yd 15 (Ya 44 0 10) 0 0,Yd 16 (Yk 45 44) 32768 0,Yd 17 (Ya 46 4 4) 0 0,Yd 18 (Yk 47 46) 131072 0,Yd 19 (oO 48 (.build [(.bool false),
 (.bool false),(.bool false),(.int .i64 0),nS,nS] [(0,1,kT),(3,1,(tT 43)),(1,1,(tT 45)),(5,1,(tT 47))])) 516096 0,Yd 20 (Ya 49 3 10) 0 0,Yd 21 (Yk 50 49) 1048576 0,Yd 22 (Ya 51 0 10) 0 0,Yd 23 (Yk 52 51) 4194304 0,
 Yd 24 (oM 53 1) 0 0,Yd 25 (oM 54 2) 0 0,Yd 26 (oM 55 2) 0 0,Yd 27 (oO 56 (.bin .add .num (tT 55) (kI 1))) 67108864 0,Yd 28 (oO 57 (.slc 2 (tT 53) (some (tT 54)) (some (tT 56)) none)) 251658240 0,Yd 29 (oO 58 (.build [(.bool false),
 (.bool false),(.bool false),(.int .i64 0),nS,nS] [(3,1,(tT 50)),(1,1,(tT 52)),(4,1,(tT 57)),(2,1,kT)])) 535822336 0,Yd 30 (oO 59 (.bslice [(.bool false),(.bool false),(.bool false),(.int .i64 0),nS,nS] 6 [(0,
 (tT 32)),(1,(tT 34)),(2,(tT 37)),(3,(tT 41)),(4,(tT 48)),(5,(tT 58))])) 1073741822 0,Yd 31 (Yc 60 126 [tT 29,tT 59]) 2147483647 1,Yd 32 (Yx 61 60 0) 4294967295 1,Yd 33 (Yx 62 60 1) 4294967295 1,Yd 34 (Ys 1 8 61) 17179869183 1,
 Yd 35 (oM 9 62) 34359738367 1]) .ret)))))
theorem ok80 : FnOk Tryz.prog 80 63 ir80 [.cell 8 true 1, .tmp 9] := Yf Tryz.func80 Tryz.ntmps80 mixed
set_option maxRecDepth 100000
def ir81 : ACode := (Yr [Yb 3 0,oO 6 (.mov (.const (.int .u64 0))),oO 7 (.mov kF)] (sQ (Yr [oM 11 2,oO 12 (.bin .lss .num (tT 11) (kI 0)),oM 13 12,oF 13 14 (.mov (tT 2)),oF 13 15 (.faddr 3 (tT 3)),oF 13 16 (.load false 1 (tT 15)),
 oF 13 17 (.len (tT 16)),oF 13 18 (.bin .geq .num (tT 14) (tT 17)),oO 19 (.pick (tT 13) kT (tT 18))] (.cond (tT 19) (Yr [oO 6 (.mov (.const (.int .u64 0))),oO 7 (.mov kF)] .ret) .skip)) (Yr [Ya 20 3 3,Yk 21 20,
 oM 22 2,Yi 23 5 21 22,Yl 24 5 23,oO 8 (.alloc [(.bool false),(.int .u64 0),(.int .u64 0),(.int .i64 0),(.int .i64 0)]),Ys 5 8 24] (Yr [Ya 25 3 8,Yk 26 25,oO 27 (.conv .u64 (tT 26)),oO 28 (.bin .shl .num (.const (.int .u64 1)) (tT 27)),
 oM 9 28] (Yr [oM 29 1,oM 30 9,oO 31 (.bin .or .num (tT 29) (tT 30)),oM 10 31] (sQ (Yr [Ya 32 0 8,Yk 33 32] (.cond (tT 33) (Yg [oM 34 1,oM 35 9,oO 36 (.bin .andNot .num (tT 34) (tT 35)),oM 10 36]) .skip)) (sQ (Yr [oM 37 10,
 oM 38 1,oO 39 (.bin .eql .num (tT 37) (tT 38)),oM 40 39,oF 40 41 (.load true 6 (tT 3)),oF 40 42 (.mov (tT 10)),oF 40 43 (kC 127 [tT 41,tT 42]),oF 40 44 (.una .not (tT 43)),oO 45 (.pick (tT 40) kT (tT 44))] (.cond (tT 45) (Yr [oO 6 (.mov (.const (.int .u64 0))),
 oO 7 (.mov kF)] .ret) .skip)) (sQ (sQ (.draw [Yd 0 (Ya 46 0 8) 0 1,Yd 1 (Yk 47 46) 1 1,Yd 2 (oO 48 (.una .not (tT 47))) 3 1,Yd 3 (oM 49 48) 7 1,Yd 4 (oT 49 50 (.faddr 1 (tT 8))) 15 0,Yd 5 (oT 49 51 (.load true 2 (tT 50))) 31 0,
 Yd 6 (oT 49 52 (.faddr 1 (tT 3))) 15 0,Yd 7 (oT 49 53 (.load false 1 (tT 52))) 79 0,Yd 8 (oT 49 54 (.mov (tT 1))) 15 0,Yd 9 (oT 49 55 (kC 54 [tT 53,tT 54])) 463 0,Yd 10 (oT 49 56 (kC 53 [tT 51,tT 55])) 1023 1,
 Yd 11 (oT 49 57 (.una .not (tT 56))) 2047 1,Yd 12 (oO 58 (.pick (tT 49) (tT 57) kF)) 4095 1]) (.cond (tT 58) (Yr [oO 6 (.mov (.const (.int .u64 0))),oO 7 (.mov kF)] .ret) .skip)) (Yr [oM 59 10,oM 6 59,
 oO 7 (.mov kT)] .ret)))))))))
theorem ok81 : FnOk Tryz.prog 81 60 ir81 [.tmp 6, .tmp 7] := Yf Tryz.func81 Tryz.ntmps81 mixed
def ir82 : ACode := (Yr [oO 4 (.mov kF)] (sQ (Yr [oM 7 0,Yn 8 7,oO 9 (.mov (kI 0))] (.block 0 (.loop (Yr [oO 10 (.bin .lss .num (tT 9) (tT 8))] (sQ (.cond (tT 10) .skip (.exit 0)) (sQ (.block 1 (Yr [Yi 11 2 7 9,
 Yl 12 2 11,oO 6 (.alloc [(.int .u64 0),(.int .u64 0)]),Ys 2 6 12] (Yr [Yl 13 2 6,oM 14 1,Yc 15 53 [tT 13,tT 14]] (.cond (tT 15) (Yr [oO 4 (.mov kT)] .ret) .skip)))) (Yg [oO 16 (.bin .add .num (tT 9) (kI 1)),
 oM 9 16]))))))) (Yr [oO 4 (.mov kF)] .ret)))
theorem ok82 : FnOk Tryz.prog 82 17 ir82 [.tmp 4] := Yf Tryz.func82 Tryz.ntmps82 mixed
def ir83 : ACode := (Yr [Yb 2 0,oO 4 (.mov (.const (.int .u64 0)))] (sQ (Yr [oM 5 1,Ya 6 0 2,Yk 7 6,Yn 8 7,oO 9 (.bin .lss .num (tT 5) (tT 8))] (.cond (tT 9) (Yr [Ya 10 0 2,Yk 11 10,oM 12 1,Yi 13 1 11 12,
 Yk 14 13,oM 4 14] .ret) .skip)) (Yr [oO 4 (.mov (.const (.int .u64 0)))] .ret)))
theorem ok83 : FnOk Tryz.prog 83 15 ir83 [.tmp 4] := Yf Tryz.func83 Tryz.ntmps83 mixed
def ir84 : ACode := (Yr [Yb 2 0,Yb 3 1,oO 4 (.mov kF)] (sQ (Yr [Ya 6 0 2,Yk 7 6,Yn 8 7,Ya 9 0 3,Yk 10 9,Yn 11 10,oO 12 (.mn (tT 8) (tT 11)),oO 13 (.mov (kI 0))] (.block 0 (.loop (Yr [oO 14 (.bin .lss .num (tT 13) (tT 12))] (sQ (.cond (tT 14) .skip (.exit 0)) (sQ (.block 1 (Yr [oM 15 13,
 oM 5 15] (sQ (.draw [Yd 0 (Ya 16 0 2) 0 0,Yd 1 (Yk 17 16) 1 0,Yd 2 (oM 18 5) 0 0,Yd 3 (Yi 19 1 17 18) 7 0,Yd 4 (Yk 20 19) 15 0,Yd 5 (Ya 21 0 3) 0 0,Yd 6 (Yk 22 21) 32 0,Yd 7 (oM 23 5) 0 0,Yd 8 (Yi 24 1 22 23) 224 0,
 Yd 9 (Yk 25 24) 480 0,Yd 10 (oO 26 (.bin .and .num (tT 20) (tT 25))) 1023 1,Yd 11 (oO 27 (.bin .neq .num (tT 26) (.const (.int .u64 0)))) 2047 1]) (.cond (tT 27) (Yr [oO 4 (.mov kT)] .ret) .skip)))) (Yg [oO 28 (.bin .add .num (tT 13) (kI 1)),
 oM 13 28]))))))) (Yr [oO 4 (.mov kF)] .ret)))
theorem ok84 : FnOk Tryz.prog 84 29 ir84 [.tmp 4] := Yf Tryz.func84 Tryz.ntmps84 mixed
def ir85 : ACode := (Yr [Yb 1 0,oO 2 (.mov (.const .nilFunc))] (Yr [oO 3 (.mkfn 128 [tT 1]),oM 2 3] .ret))
theorem ok85 : FnOk Tryz.prog 85 4 ir85 [.tmp 2] := Yf Tryz.func85 Tryz.ntmps85 mixed
def ir86 : ACode := (Yr [oO 4 (.alloc [nS])] (sQ (Yr [oM 5 0,oO 6 (.bin .eql .ptr (tT 5) (.const (.pointer none))),oM 7 6,oF 7 8 (.mov (tT 1)),oF 7 9 (kC 113 [tT 8]),oF 7 10 (.una .not (tT 9)),oO 11 (.pick (tT 7) kT (tT 10))] (.cond (tT 11) (Yr [oO 12 (.build [nS] []),
 Ys 1 4 12] .ret) .skip)) (Yr [oM 13 0,oO 14 (.nilck (tT 13)),Ya 15 0 14,Yk 16 15,oM 17 1,Yc 18 130 [tT 16,tT 17],oM 19 1,Yc 20 15 [tT 18,tT 19],Ys 1 4 20] .ret)))
theorem ok86 : FnOk Tryz.prog 86 21 ir86 [.cell 4 true 1] := Yf Tryz.func86 Tryz.ntmps86 mixed
def ir87 : ACode := (Yr [Yb 2 0,Yb 3 1,oO 4 (.mov kF)] (sQ (Yr [Ya 7 0 2,Yk 8 7,Yn 9 8,Ya 10 0 3,Yk 11 10,Yn 12 11,oO 13 (.bin .neq .num (tT 9) (tT 12))] (.cond (tT 13) (Yr [oO 4 (.mov kF)] .ret) .skip)) (sQ (Yr [Ya 14 0 2,
 Yk 15 14,Yn 16 15,oO 17 (.mov (kI 0))] (.block 0 (.loop (Yr [oO 18 (.bin .lss .num (tT 17) (tT 16))] (sQ (.cond (tT 18) .skip (.exit 0)) (sQ (.block 1 (Yr [oM 19 17,Yi 20 1 15 17,Yk 21 20,oM 5 19,oM 6 21] (Yr [oM 22 6,
 Ya 23 0 3,Yk 24 23,oM 25 5,Yi 26 1 24 25,Yk 27 26,oO 28 (.bin .neq .num (tT 22) (tT 27))] (.cond (tT 28) (Yr [oO 4 (.mov kF)] .ret) .skip)))) (Yg [oO 29 (.bin .add .num (tT 17) (kI 1)),oM 17 29]))))))) (Yr [oO 4 (.mov kT)] .ret))))
theorem ok87 : FnOk Tryz.prog 87 30 ir87 [.tmp 4] := Yf Tryz.func87 Tryz.ntmps87 mixed
def ir88 : ACode := (Yr [Yb 2 0,Yb 3 1,oO 4 (.mov kF)] (sQ (.draw [Yd 0 (Ya 5 1 2) 0 1,Yd 1 (Yk 6 5) 1 1,Yd 2 (oO 7 (.bin .neq .ptr (tT 6) (.const (.pointer none)))) 3 1,Yd 3 (oM 8 7) 7 1,Yd 4 (oT 8 9 (.faddr 4 (tT 2))) 15 0,
 Yd 5 (oT 8 10 (.load false 1 (tT 9))) 31 0,Yd 6 (oT 8 11 (.faddr 1 (tT 2))) 15 0,Yd 7 (oT 8 12 (.load false 1 (tT 11))) 79 0,Yd 8 (oT 8 13 (.load true 1 (tT 3))) 15 0,Yd 9 (oT 8 14 (kC 37 [tT 12,tT 13])) 463 0,
 Yd 10 (oT 8 15 (kC 78 [tT 10,tT 14])) 1023 1,Yd 11 (oT 8 16 (.una .not (tT 15))) 2047 1,Yd 12 (oO 17 (.pick (tT 8) (tT 16) kF)) 4095 1,Yd 13 (oM 4 17) 8191 1]) .ret))
theorem ok88 : FnOk Tryz.prog 88 18 ir88 [.tmp 4] := Yf Tryz.func88 Tryz.ntmps88 mixed
def ir89 : ACode := (Yr [Yb 1 0,oO 2 (.mov kF)] (Yr [Ya 3 0 1,Yk 4 3,oO 5 (.una .not (tT 4)),oM 6 5,oF 6 7 (.faddr 1 (tT 1)),oF 6 8 (.faddr 0 (tT 7)),oF 6 9 (.load true 1 (tT 8)),oF 6 10 (kC 90 [tT 9]),
 oF 6 11 (.mov (tT 10)),oT 11 12 (.faddr 1 (tT 1)),oT 11 13 (.faddr 1 (tT 12)),oT 11 14 (.load true 1 (tT 13)),oT 11 15 (kC 90 [tT 14]),oF 6 16 (.pick (tT 11) (tT 15) kF),oO 17 (.pick (tT 6) kT (tT 16)),
 oM 2 17] .ret))
theorem ok89 : FnOk Tryz.prog 89 18 ir89 [.tmp 2] := Yf Tryz.func89 Tryz.ntmps89 mixed
def ir90 : ACode := (Yr [Yb 1 0,oO 2 (.mov kF)] (Yr [Ya 3 0 1,Yk 4 3,Yn 5 4,oO 6 (.bin .eql .num (tT 5) (kI 0)),oM 2 6] .ret))
theorem ok90 : FnOk Tryz.prog 90 7 ir90 [.tmp 2] := Yf Tryz.func90 Tryz.ntmps90 mixed
def ir91 : ACode := (Yr [Yb 1 0,oO 2 (.mov kF)] (Yr [Ya 4 0 1,Yk 5 4,oO 6 (.bin .add .num (tT 5) (kI 1)),Yc 7 73 [tT 6],Yc 8 34 [tT 7,kI 0],oO 3 (.alloc [nS]),Ys 1 3 8] (Yr [Ya 9 2 1,Yl 10 1 9,Yl 11 1 3,
 Yc 12 75 [tT 10,tT 11],oM 13 12,oT 13 14 (.faddr 1 (tT 1)),oT 13 15 (.load false 1 (tT 14)),oT 13 16 (kC 119 [tT 15]),oT 13 17 (.mkfn 132 [tT 3]),oT 13 18 (kC 131 [tT 16,tT 17]),oO 19 (.pick (tT 13) (tT 18) kF),
 oM 20 19,oT 20 21 (.faddr 3 (tT 1)),oT 20 22 (.load false 1 (tT 21)),oT 20 23 (.mkfn 133 [tT 3]),oT 20 24 (kC 94 [tT 22,tT 23]),oO 25 (.pick (tT 20) (tT 24) kF),oM 26 25,oT 26 27 (.load true 6 (tT 1)),
 oT 26 28 (kC 93 [tT 27]),oT 26 29 (.mkfn 135 [tT 3]),oT 26 30 (kC 134 [tT 28,tT 29]),oO 31 (.pick (tT 26) (tT 30) kF),oM 2 31] .ret)))
theorem ok91 : FnOk Tryz.prog 91 32 ir91 [.tmp 2] := Yf Tryz.func91 Tryz.ntmps91 mixed
def ir92 : ACode := (Yr [oO 4 (.mov kF)] (Yr [oM 5 0,oM 6 1,Yc 7 136 [tT 5,tT 6],oO 8 (.bin .geq .num (tT 7) (kI 0)),oM 4 8] .ret))
theorem ok92 : FnOk Tryz.prog 92 9 ir92 [.tmp 4] := Yf Tryz.func92 Tryz.ntmps92 mixed
def ir93 : ACode := (Yr [Yb 1 0,oO 2 (.mov (.const nS))] (Yr [oO 3 (.mov (.const nS))] (sQ (Yr [Ya 6 3 1,Yk 7 6,Yn 8 7,oO 9 (.mov (kI 0))] (.block 0 (.loop (Yr [oO 10 (.bin .lss .num (tT 9) (tT 8))] (sQ (.cond (tT 10) .skip (.exit 0)) (sQ (.block 1 (Yr [Yi 11 5 7 9,
 Yl 12 5 11,oO 5 (.alloc [(.bool false),nS,nS,(.int .i64 0),(.int .i64 0)]),Ys 5 5 12] (Yg [oM 13 3,Ya 14 1 5,Yl 15 2 14,oO 16 (.bslice [nS,nS] 1 [(0,(tT 15))]),oO 17 (.append [nS,nS] 48 (tT 13) (tT 16)),
 oM 3 17]))) (Yg [oO 18 (.bin .add .num (tT 9) (kI 1)),oM 9 18]))))))) (sQ (.draw [Yd 0 (oM 19 3) 0 0,Yd 1 (Ya 20 4 1) 0 0,Yd 2 (Yk 21 20) 2 0,Yd 3 (oO 22 (.append [nS,nS] 48 (tT 19) (tT 21))) 7 14,Yd 4 (Ya 23 5 1) 0 0,
 Yd 5 (Yk 24 23) 16 0,Yd 6 (oO 25 (.append [nS,nS] 48 (tT 22) (tT 24))) 63 1,Yd 7 (oM 2 25) 127 1]) .ret))))
theorem ok93 : FnOk Tryz.prog 93 26 ir93 [.tmp 2] := Yf Tryz.func93 Tryz.ntmps93 mixed
def ir94 : ACode := (Yr [Yb 3 1,oO 4 (.mov kF)] (Yr [oM 5 0,oO 6 (.mkfn 138 [tT 3]),Yc 7 137 [tT 5,tT 6],oO 8 (.una .not (tT 7)),oM 4 8] .ret))
theorem ok94 : FnOk Tryz.prog 94 9 ir94 [.tmp 4] := Yf Tryz.func94 Tryz.ntmps94 mixed
def ir95 : ACode := (Yr [Yb 1 0,oO 2 (.mov (.const nS)),oO 3 (.mov (kI 0))] (sQ (Yr [Yl 7 6 1,Yc 8 40 [tT 7],oM 4 8] (Yr [oM 9 4,oO 10 (.bin .neq .num (tT 9) (kI 0))] (.cond (tT 10) (Yr [oM 11 4,oO 2 (.mov (.const nS)),
 oM 3 11] .ret) .skip))) (Yr [Yl 13 6 1,Ya 14 4 1,Yk 15 14,Yc 16 98 [tT 13,tT 15],oM 12 16,Yx 17 12 0,Yx 18 12 1,oM 5 17,oM 6 18] (sQ (Yr [oM 19 6,oO 20 (.bin .neq .num (tT 19) (kI 0))] (.cond (tT 20) (Yr [oM 21 6,
 oO 2 (.mov (.const nS)),oM 3 21] .ret) .skip)) (Yr [oM 22 5,Yc 23 100 [tT 22],Yx 24 23 0,Yx 25 23 1,oM 2 24,oM 3 25] .ret)))))
theorem ok95 : FnOk Tryz.prog 95 26 ir95 [.tmp 2, .tmp 3] := Yf Tryz.func95 Tryz.ntmps95 mixed
def ir96 : ACode := (Yr [Yb 2 0,Yb 3 1,oO 4 (.alloc [nS]),oO 5 (.alloc [(.int .i64 0)])] (sQ (Yr [Ya 15 1 2,Yk 16 15,oO 17 (.bin .eql .ptr (tT 16) (.const (.pointer none)))] (.cond (tT 17) (Yr [⟨none,.store 1 (tT 4) (.const nS),
 none⟩,⟨none,.store 1 (tT 5) (kI 1),none⟩] .ret) .skip)) (Yr [Ya 18 0 2,Yk 19 18,oO 20 (.bin .add .num (tT 19) (kI 1)),Yc 21 73 [tT 20],Yc 22 34 [tT 21,kI 0],oO 6 (.alloc [nS]),Ys 1 6 22] (sQ (sQ (.draw [Yd 0 (Ya 23 0 3) 0 0,
 Yd 1 (Yl 24 1 23) 1 0,Yd 2 (Ya 25 1 3) 0 0,Yd 3 (Yl 26 1 25) 4 0,Yd 4 (Yc 27 74 [tT 24,tT 26]) 15 0,Yd 5 (Yl 28 1 6) 0 0,Yd 6 (Yc 29 75 [tT 27,tT 28]) 63 1,Yd 7 (oO 30 (.una .not (tT 29))) 127 1]) (.cond (tT 30) (Yr [⟨none,
 .store 1 (tT 4) (.const nS),none⟩,⟨none,.store 1 (tT 5) (kI 4),none⟩] .ret) .skip)) (Yr [oO 7 (.alloc [nS])] (sQ (Yr [Ya 31 1 3,Yl 32 1 31,Yc 33 85 [tT 32]] (.block 0 (.range (tT 33) [34] [(8,(tT 34))] (.block 1 (.draw [Yd 0 (Yl 35 1 7) 0 0,
 Yd 1 (Ya 36 1 2) 0 0,Yd 2 (Yk 37 36) 2 0,Yd 3 (oM 38 8) 0 0,Yd 4 (Yc 39 139 [tT 37,tT 38]) 14 0,Yd 5 (Yl 40 1 6) 0 0,Yd 6 (Yc 41 140 [tT 39,tT 40]) 62 0,Yd 7 (Yc 42 74 [tT 35,tT 41]) 127 1,Yd 8 (Ys 1 7 42) 255 1]))))) (Yr [Yl 43 1 7,
 oO 44 (.build [nS,nS] [(1,1,(tT 43))]),oO 45 (.bslice [nS,nS] 1 [(0,(tT 44))]),oO 9 (.alloc [nS]),Ys 1 9 45] (sQ (Yr [Ya 46 0 3,Yl 47 1 46,Yc 48 85 [tT 47]] (.block 2 (.range (tT 48) [49] [(10,(tT 49))] (.block 3 (Yr [oO 11 (.alloc [nS])] (sQ (Yr [Yk 50 9,
 Yn 51 50,oO 52 (.mov (kI 0))] (.block 4 (.loop (Yr [oO 53 (.bin .lss .num (tT 52) (tT 51))] (sQ (.cond (tT 53) .skip (.exit 4)) (sQ (.block 5 (Yr [Yi 54 2 50 52,Yl 55 2 54,oO 13 (.alloc [nS,nS]),Ys 2 13 55] (sQ (.draw [Yd 0 (Ya 56 1 2) 0 0,
 Yd 1 (Yk 57 56) 1 0,Yd 2 (oM 58 10) 0 0,Yd 3 (Yc 59 139 [tT 57,tT 58]) 7 0,Yd 4 (Yl 60 1 6) 0 0,Yd 5 (Yc 61 140 [tT 59,tT 60]) 31 1,Yd 6 (Yc 62 85 [tT 61]) 63 1]) (.block 6 (.range (tT 62) [63] [(14,(tT 63))] (.block 7 (.draw [Yd 0 (Yk 64 11) 0 0,
 Yd 1 (Ya 65 0 13) 0 0,Yd 2 (Yl 66 1 65) 2 0,Yd 3 (oM 67 14) 0 0,Yd 4 (Yc 68 15 [tT 66,tT 67]) 14 0,Yd 5 (Ya 69 1 13) 0 0,Yd 6 (Yl 70 1 69) 32 0,Yd 7 (oO 71 (.build [nS,nS] [(0,1,(tT 68)),(1,1,(tT 70))])) 126 0,
 Yd 8 (oO 72 (.bslice [nS,nS] 1 [(0,(tT 71))])) 254 0,Yd 9 (oO 73 (.append [nS,nS] 48 (tT 64) (tT 72))) 511 1,Yd 10 (Ys 1 11 73) 1023 1]))))))) (Yg [oO 74 (.bin .add .num (tT 52) (kI 1)),oM 52 74]))))))) (Yr [Yk 75 11,
 Yc 76 141 [tT 75],Ys 1 9 76] (Yr [Yk 77 9,Yn 78 77,oO 79 (.bin .gtr .num (tT 78) (kI 2000))] (.cond (tT 79) (Yr [⟨none,.store 1 (tT 4) (.const nS),none⟩,⟨none,.store 1 (tT 5) (kI 3),none⟩] .ret) .skip))))))))) (Yr [Yk 80 9,
 Ys 1 4 80,⟨none,.store 1 (tT 5) (kI 0),none⟩] .ret)))))))))
theorem ok96 : FnOk Tryz.prog 96 81 ir96 [.cell 4 false 1, .cell 5 false 1] := Yf Tryz.func96 Tryz.ntmps96 mixed
def ir97 : ACode := (Yr [Yb 3 0,oO 6 (.alloc [nS,nS]),oO 7 (.mov kF)] (sQ (Yr [oM 8 2] (.cond (tT 8) (sQ (.draw [Yd 0 (Ya 9 0 3) 0 0,Yd 1 (Yl 10 1 9) 1 0,Yd 2 (Ya 11 1 3) 0 0,Yd 3 (Yl 12 1 11) 4 0,Yd 4 (oM 13 1) 0 0,
 Yd 5 (Yc 14 34 [tT 12,tT 13]) 28 0,Yd 6 (oO 15 (.build [nS,nS] [(0,1,(tT 10)),(1,1,(tT 14))])) 63 0,Yd 7 (Ya 16 0 3) 0 0,Yd 8 (Yl 17 1 16) 128 0,Yd 9 (oM 18 1) 0 0,Yd 10 (Yc 19 35 [tT 17,tT 18]) 956 0,
 Yd 11 (oO 20 (.una .not (tT 19))) 1980 0,Yd 12 (Ys 2 6 15) 2047 1,Yd 13 (oM 7 20) 8191 1]) .ret) .skip)) (sQ (.draw [Yd 0 (Ya 21 0 3) 0 0,Yd 1 (Yl 22 1 21) 1 0,Yd 2 (oM 23 1) 0 0,Yd 3 (Yc 24 34 [tT 22,
 tT 23]) 7 0,Yd 4 (Ya 25 1 3) 0 0,Yd 5 (Yl 26 1 25) 16 0,Yd 6 (oO 27 (.build [nS,nS] [(0,1,(tT 24)),(1,1,(tT 26))])) 63 0,Yd 7 (Ya 28 1 3) 0 0,Yd 8 (Yl 29 1 28) 128 0,Yd 9 (oM 30 1) 0 0,Yd 10 (Yc 31 35 [tT 29,
 tT 30]) 911 0,Yd 11 (oO 32 (.una .not (tT 31))) 1935 0,Yd 12 (Ys 2 6 27) 2047 1,Yd 13 (oM 7 32) 8191 1]) .ret)))
theorem ok97 : FnOk Tryz.prog 97 33 ir97 [.cell 6 true 2, .tmp 7] := Yf Tryz.func97 Tryz.ntmps97 mixed
def ir98 : ACode := (Yr [Yb 2 0,oO 4 (.mov (.const nS)),oO 5 (.mov (kI 0))] (Yr [oO 6 (.mov (.const nS))] (sQ (Yr [oM 11 1,Yn 12 11,oO 13 (.mov (kI 0))] (.block 0 (.loop (Yr [oO 14 (.bin .lss .num (tT 13) (tT 12))] (sQ (.cond (tT 14) .skip (.exit 0)) (sQ (.block 1 (Yr [Yi 15 2 11 13,
 Yl 16 2 15,oO 8 (.alloc [nS,nS]),Ys 2 8 16] (Yr [Yl 18 6 2,Yl 19 2 8,Yc 20 96 [tT 18,tT 19],oM 17 20,Yx 21 17 0,Yx 22 17 1,oM 9 21,oM 10 22] (sQ (Yr [oM 23 10,oO 24 (.bin .neq .num (tT 23) (kI 0))] (.cond (tT 24) (Yr [oM 25 10,
 oO 4 (.mov (.const nS)),oM 5 25] .ret) .skip)) (Yg [oM 26 6,oM 27 9,oO 28 (.append [nS,nS] 48 (tT 26) (tT 27)),oM 6 28]))))) (Yg [oO 29 (.bin .add .num (tT 13) (kI 1)),oM 13 29]))))))) (Yr [oM 30 6,oM 4 30,
 oO 5 (.mov (kI 0))] .ret))))
theorem ok98 : FnOk Tryz.prog 98 31 ir98 [.tmp 4, .tmp 5] := Yf Tryz.func98 Tryz.ntmps98 mixed
def ir99 : ACode := (Yr [oO 4 (.mov (.const nS)),oO 5 (.mov (kI 0))] (Yr [oO 6 (.mov (.const nS))] (sQ (Yr [oM 11 0,Yn 12 11,oO 13 (.mov (kI 0))] (.block 0 (.loop (Yr [oO 14 (.bin .lss .num (tT 13) (tT 12))] (sQ (.cond (tT 14) .skip (.exit 0)) (sQ (.block 1 (Yr [Yi 15 2 11 13,
 Yl 16 2 15,oO 8 (.alloc [nS,nS]),Ys 2 8 16] (Yr [Yl 18 2 8,oM 19 1,Yc 20 142 [tT 18,tT 19],oM 17 20,Yx 21 17 0,Yx 22 17 1,oM 9 21,oM 10 22] (sQ (Yr [oM 23 10,oO 24 (.bin .neq .num (tT 23) (kI 0))] (.cond (tT 24) (Yr [oM 25 10,
 oO 4 (.mov (.const nS)),oM 5 25] .ret) .skip)) (Yg [oM 26 6,oM 27 9,oO 28 (.append [nS,nS] 48 (tT 26) (tT 27)),oM 6 28]))))) (Yg [oO 29 (.bin .add .num (tT 13) (kI 1)),oM 13 29]))))))) (Yr [oM 30 6,oM 4 30,
 oO 5 (.mov (kI 0))] .ret))))
theorem ok99 : FnOk Tryz.prog 99 31 ir99 [.tmp 4, .tmp 5] := Yf Tryz.func99 Tryz.ntmps99 mixed
def ir100 : ACode := (Yr [oO 2 (.mov (.const nS)),oO 3 (.mov (kI 0))] (Yr [oM 4 0,Yc 5 141 [tT 4],oM 0 5] (sQ (Yr [oM 6 0,Yn 7 6,oO 8 (.bin .gtr .num (tT 7) (kI 2000))] (.cond (tT 8) (Yr [oO 2 (.mov (.const nS)),
 oO 3 (.mov (kI 3))] .ret) .skip)) (Yr [oM 9 0,oM 2 9,oO 3 (.mov (kI 0))] .ret))))
theorem ok100 : FnOk Tryz.prog 100 10 ir100 [.tmp 2, .tmp 3] := Yf Tryz.func100 Tryz.ntmps100 mixed
def ir101 : ACode := (Yr [Yb 2 0,oO 4 (.mov kF)] (sQ (Yr [Yl 7 2 2,Yc 8 76 [tT 7]] (.cond (tT 8) (Yr [oO 4 (.mov kT)] .ret) .skip)) (sQ (.block 0 (.loop (sQ (sQ (.draw [Yd 0 (oM 9 1) 0 1,Yd 1 (Yn 10 9) 1 1,
 Yd 2 (oO 11 (.bin .gtr .num (tT 10) (kI 0))) 3 1,Yd 3 (oM 12 11) 7 1,Yd 4 (oT 12 13 (.load true 2 (tT 2))) 15 0,Yd 5 (oT 12 14 (.mov (tT 1))) 15 0,Yd 6 (oT 12 15 (.iaddr 2 (tT 14) (kI 0))) 47 0,Yd 7 (oT 12 16 (.load true 2 (tT 15))) 111 0,
 Yd 8 (oT 12 17 (kC 143 [tT 13,tT 16])) 255 1,Yd 9 (oT 12 18 (kC 76 [tT 17])) 511 1,Yd 10 (oO 19 (.pick (tT 12) (tT 18) kF)) 1023 1]) (.cond (tT 19) .skip (.exit 0))) (.block 1 (Yg [oM 20 1,oO 21 (.slc 2 (tT 20) (some (kI 1)) none none),
 oM 1 21]))))) (sQ (Yr [oM 22 1,Yn 23 22,oO 24 (.bin .eql .num (tT 23) (kI 0))] (.cond (tT 24) (Yr [oO 4 (.mov kF)] .ret) .skip)) (sQ (sQ (.draw [Yd 0 (Yl 25 2 2) 0 0,Yd 1 (oM 26 1) 0 0,Yd 2 (oO 27 (.iaddr 2 (tT 26) (kI 0))) 2 0,
 Yd 3 (Yl 28 2 27) 6 0,Yd 4 (Yc 29 144 [tT 25,tT 28]) 15 1,Yd 5 (Yn 30 29) 31 1,Yd 6 (oO 31 (.mov (kI 0))) 0 0]) (.block 2 (.loop (Yr [oO 32 (.bin .lss .num (tT 31) (tT 30))] (sQ (.cond (tT 32) .skip (.exit 2)) (sQ (.block 3 (Yr [Yi 33 2 29 31,
 Yl 34 2 33,oO 6 (.alloc [nS,nS]),Ys 2 6 34] (sQ (.draw [Yd 0 (Yl 35 2 6) 0 0,Yd 1 (oM 36 1) 0 0,Yd 2 (oO 37 (.slc 2 (tT 36) (some (kI 1)) none none)) 2 0,Yd 3 (Yc 38 101 [tT 35,tT 37]) 7 1,Yd 4 (oO 39 (.una .not (tT 38))) 15 1]) (.cond (tT 39) (Yr [oO 4 (.mov kF)] .ret) .skip)))) (Yg [oO 40 (.bin .add .num (tT 31) (kI 1)),
 oM 31 40]))))))) (Yr [oO 4 (.mov kT)] .ret))))))
theorem ok101 : FnOk Tryz.prog 101 41 ir101 [.tmp 4] := Yf Tryz.func101 Tryz.ntmps101 mixed
def ir102 : ACode := (Yr [Yb 4 1,oO 6 (.mov (.const nS)),oO 7 (.mov (kI 0))] (Yr [oM 17 0,oO 18 (.nilck (tT 17)),Ya 19 0 18,Ya 20 3 19,Yk 21 20,oM 22 2,Yi 23 5 21 22,Yl 24 5 23,oO 8 (.alloc [(.bool false),
 nS,nS,(.int .i64 0),(.int .i64 0)]),Ys 5 8 24] (Yr [Yl 26 2 4,Ya 27 3 8,Yk 28 27,Ya 29 0 8,Yk 30 29,Yc 31 97 [tT 26,tT 28,tT 30],oM 25 31,Yx 32 25 0,Yx 33 25 1,oO 9 (.alloc [nS,nS]),Ys 2 9 32,oM 10 33] (sQ (Yr [oM 34 10,
 oO 35 (.una .not (tT 34))] (.cond (tT 35) (Yr [oO 6 (.mov (.const nS)),oO 7 (.mov (kI 0))] .ret) .skip)) (sQ (Yr [Ya 36 0 8,Yk 37 36] (.cond (tT 37) (Yg [Ya 38 0 9,Yl 39 1 38,Ya 40 3 8,Yk 41 40,Yc 42 15 [tT 39,
 tT 41],Ya 43 0 9,Ys 1 43 42]) (Yg [Ya 44 1 9,Yl 45 1 44,Ya 46 3 8,Yk 47 46,Yc 48 15 [tT 45,tT 47],Ya 49 1 9,Ys 1 49 48]))) (Yr [oO 11 (.mov (.const nS))] (sQ (Yr [oM 50 0,oO 51 (.nilck (tT 50)),Ya 52 7 51,
 Yk 53 52,oM 54 2,Yi 55 1 53 54,Yk 56 55,Yn 57 56,oO 58 (.mov (kI 0))] (.block 0 (.loop (Yr [oO 59 (.bin .lss .num (tT 58) (tT 57))] (sQ (.cond (tT 59) .skip (.exit 0)) (sQ (.block 1 (Yr [Yi 60 2 56 58,
 Yl 61 2 60,oO 13 (.alloc [nS,nS]),Ys 2 13 61] (Yr [Yl 63 2 9,Yl 64 2 13,Yc 65 145 [tT 63,tT 64],oM 62 65,Yx 66 62 0,Yx 67 62 1,oO 14 (.alloc [nS,nS]),Ys 2 14 66,oM 15 67] (Yr [oM 68 15] (.cond (tT 68) (Yg [oM 69 11,
 Yl 70 2 14,oO 71 (.bslice [nS,nS] 1 [(0,(tT 70))]),oO 72 (.append [nS,nS] 48 (tT 69) (tT 71)),oM 11 72]) .skip))))) (Yg [oO 73 (.bin .add .num (tT 58) (kI 1)),oM 58 73]))))))) (Yr [oM 75 11,oM 76 0,oO 77 (.nilck (tT 76)),
 Ya 78 8 77,Yk 79 78,oM 80 2,Yi 81 1 79 80,Yk 82 81,Yc 83 99 [tT 75,tT 82],oM 74 83,Yx 84 74 0,Yx 85 74 1,oM 11 84,oM 16 85] (sQ (Yr [oM 86 16,oO 87 (.bin .neq .num (tT 86) (kI 0))] (.cond (tT 87) (Yr [oM 88 16,
 oO 6 (.mov (.const nS)),oM 7 88] .ret) .skip)) (Yr [oM 89 11,Yc 90 100 [tT 89],Yx 91 90 0,Yx 92 90 1,oM 6 91,oM 7 92] .ret))))))))))
theorem ok102 : FnOk Tryz.prog 102 93 ir102 [.tmp 6, .tmp 7] := Yf Tryz.func102 Tryz.ntmps102 mixed
def ir104 : ACode := (Yr [Yb 2 0,Yb 3 1,oO 4 (.mov (kI 0))] (sQ (Yr [oO 5 (.iaddrA 2 1 (tT 2) (kI 0)),Yk 6 5,oO 7 (.iaddrA 2 1 (tT 3) (kI 0)),Yk 8 7,oO 9 (.bin .neq .num (tT 6) (tT 8))] (.cond (tT 9) (Yr [oO 10 (.iaddrA 2 1 (tT 2) (kI 0)),
 Yk 11 10,oO 12 (.iaddrA 2 1 (tT 3) (kI 0)),Yk 13 12,oO 14 (.bin .sub .num (tT 11) (tT 13)),oM 4 14] .ret) .skip)) (Yr [oO 15 (.iaddrA 2 1 (tT 2) (kI 1)),Yk 16 15,oO 17 (.iaddrA 2 1 (tT 3) (kI 1)),Yk 18 17,
 oO 19 (.bin .sub .num (tT 16) (tT 18)),oM 4 19] .ret)))
theorem ok104 : FnOk Tryz.prog 104 20 ir104 [.tmp 4] := Yf Tryz.func104 Tryz.ntmps104 mixed
def ir105 : ACode := (Yr [oO 2 (.mov (.const nS))] (Yr [oM 3 0,oM 4 0,Yn 5 4,oM 6 0,Yn 7 6,oO 8 (.slc 2 (tT 3) none (some (tT 5)) (some (tT 7))),oM 2 8] .ret))
theorem ok105 : FnOk Tryz.prog 105 9 ir105 [.tmp 2] := Yf Tryz.func105 Tryz.ntmps105 mixed
def ir106 : ACode := (Yr [oO 2 (.mov (.const nS))] (sQ (Yr [oM 6 0,Yn 7 6,oO 8 (.bin .lss .num (tT 7) (kI 2))] (.cond (tT 8) (Yr [oM 9 0,oM 2 9] .ret) .skip)) (sQ (Yr [oO 3 (.mov (kI 1))] (.block 0 (.loop (sQ (Yr [oM 10 3,
 oM 11 0,Yn 12 11,oO 13 (.bin .lss .num (tT 10) (tT 12))] (.cond (tT 13) .skip (.exit 0))) (sQ (.block 1 (sQ (.draw [Yd 0 (oM 16 0) 0 0,Yd 1 (oM 17 3) 0 0,Yd 2 (Yi 18 2 16 17) 3 0,Yd 3 (Yl 19 2 18) 7 0,
 Yd 4 (oM 20 0) 0 0,Yd 5 (oM 21 3) 0 0,Yd 6 (oO 22 (.bin .sub .num (tT 21) (kI 1))) 32 0,Yd 7 (Yi 23 2 20 22) 112 0,Yd 8 (Yl 24 2 23) 240 0,Yd 9 (oO 25 (.bin .eql (.cells [0,0]) (tT 19) (tT 24))) 511 1]) (.cond (tT 25) (Yr [oM 26 0,
 oM 27 3,oO 28 (.slc 2 (tT 26) (some (tT 27)) none none),oM 4 28] (sQ (Yr [oO 5 (.mov (kI 1))] (.block 2 (.loop (sQ (Yr [oM 29 5,oM 30 4,Yn 31 30,oO 32 (.bin .lss .num (tT 29) (tT 31))] (.cond (tT 32) .skip (.exit 2))) (sQ (.block 3 (sQ (.draw [Yd 0 (oM 35 4) 0 0,
 Yd 1 (oM 36 5) 0 0,Yd 2 (Yi 37 2 35 36) 3 0,Yd 3 (Yl 38 2 37) 7 0,Yd 4 (oM 39 4) 0 0,Yd 5 (oM 40 5) 0 0,Yd 6 (oO 41 (.bin .sub .num (tT 40) (kI 1))) 32 0,Yd 7 (Yi 42 2 39 41) 112 0,Yd 8 (Yl 43 2 42) 240 0,
 Yd 9 (oO 44 (.bin .neq (.cells [0,0]) (tT 38) (tT 43))) 511 1]) (.cond (tT 44) (Yr [oM 45 0,oM 46 3,oM 47 4,oM 48 5,Yi 49 2 47 48,Yl 50 2 49,Yi 51 2 45 46,Ys 2 51 50] (Yg [oM 52 3,oO 53 (.bin .add .num (tT 52) (kI 1)),
 oM 3 53])) .skip))) (Yg [oM 33 5,oO 34 (.bin .add .num (tT 33) (kI 1)),oM 5 34])))))) (Yr [oM 54 0,oM 55 3,oO 56 (.slc 2 (tT 54) (some (tT 55)) none none),⟨none,.clear [(.int .i64 0),(.int .i64 0)] (tT 56),
 none⟩] (Yr [oM 57 0,oM 58 3,oO 59 (.slc 2 (tT 57) none (some (tT 58)) none),oM 2 59] .ret)))) .skip))) (Yg [oM 14 3,oO 15 (.bin .add .num (tT 14) (kI 1)),oM 3 15])))))) (Yr [oM 60 0,oM 2 60] .ret))))
theorem ok106 : FnOk Tryz.prog 106 61 ir106 [.tmp 2] := Yf Tryz.func106 Tryz.ntmps106 mixed
def ir107 : ACode := (Yr [oO 2 (.mov kF)] (Yr [oM 9 0,oO 10 (.nilck (tT 9)),Ya 11 0 10,Yk 12 11,oO 13 (.mslice [(.int .i64 0)] 8 (tT 12) (tT 12)),oM 3 13] (sQ (Yr [oM 14 0,oO 15 (.nilck (tT 14)),Ya 16 1 15,
 Yk 17 16,Yn 18 17,oO 19 (.mov (kI 0))] (.block 0 (.loop (Yr [oO 20 (.bin .lss .num (tT 19) (tT 18))] (sQ (.cond (tT 20) .skip (.exit 0)) (sQ (.block 1 (Yr [Yi 21 2 17 19,Yl 22 2 21,oO 5 (.alloc [(.int .i64 0),
 (.int .i64 0)]),Ys 2 5 22] (Yg [oM 23 3,oO 24 (.iaddrA 2 1 (tT 5) (kI 1)),Yk 25 24,Yi 26 1 23 25,Yk 27 26,oO 28 (.bin .add .num (tT 27) (kI 1)),Yi 29 1 23 25,Ys 1 29 28]))) (Yg [oO 30 (.bin .add .num (tT 19) (kI 1)),
 oM 19 30]))))))) (sQ (.block 2 (.loop (sQ (sQ (.draw [Yd 0 (oM 31 0) 0 0,Yd 1 (oO 32 (.nilck (tT 31))) 1 0,Yd 2 (Ya 33 4 32) 3 0,Yd 3 (Yk 34 33) 7 0,Yd 4 (Yn 35 34) 15 0,Yd 5 (oM 36 0) 0 0,Yd 6 (oO 37 (.nilck (tT 36))) 32 0,
 Yd 7 (Ya 38 0 37) 96 0,Yd 8 (Yk 39 38) 224 0,Yd 9 (oO 40 (.bin .lss .num (tT 35) (tT 39))) 511 1]) (.cond (tT 40) .skip (.exit 2))) (.block 3 (Yr [oM 41 3,Yc 42 148 [tT 41,kI 0],oM 6 42] (sQ (Yr [oM 43 6,
 oO 44 (.bin .lss .num (tT 43) (kI 0))] (.cond (tT 44) (Yr [oO 2 (.mov kF)] .ret) .skip)) (Yr [oM 45 3,oM 46 6,Yi 47 1 45 46,⟨none,.store 1 (tT 47) (.const (.int .i64 (-1))),none⟩] (Yr [oM 48 0,oM 49 0,
 oO 50 (.nilck (tT 49)),Ya 51 4 50,Yk 52 51,oM 53 6,oO 54 (.bslice [(.int .i64 0)] 1 [(0,(tT 53))]),oO 55 (.append [(.int .i64 0)] 8 (tT 52) (tT 54)),oO 56 (.nilck (tT 48)),Ya 57 4 56,Ys 1 57 55] (Yr [oM 58 0,
 oO 59 (.nilck (tT 58)),Ya 60 1 59,Yk 61 60,Yn 62 61,oO 63 (.mov (kI 0))] (.block 4 (.loop (Yr [oO 64 (.bin .lss .num (tT 63) (tT 62))] (sQ (.cond (tT 64) .skip (.exit 4)) (sQ (.block 5 (Yr [Yi 65 2 61 63,
 Yl 66 2 65,oO 8 (.alloc [(.int .i64 0),(.int .i64 0)]),Ys 2 8 66] (Yr [oO 67 (.iaddrA 2 1 (tT 8) (kI 0)),Yk 68 67,oM 69 6,oO 70 (.bin .eql .num (tT 68) (tT 69))] (.cond (tT 70) (Yg [oM 71 3,oO 72 (.iaddrA 2 1 (tT 8) (kI 1)),
 Yk 73 72,Yi 74 1 71 73,Yk 75 74,oO 76 (.bin .sub .num (tT 75) (kI 1)),Yi 77 1 71 73,Ys 1 77 76]) .skip)))) (Yg [oO 78 (.bin .add .num (tT 63) (kI 1)),oM 63 78]))))))))))))))) (Yr [oO 2 (.mov kT)] .ret)))))
theorem ok107 : FnOk Tryz.prog 107 79 ir107 [.tmp 2] := Yf Tryz.func107 Tryz.ntmps107 mixed
def ir108 : ACode := (Yr [Yb 1 0] (sQ (.draw [Yd 0 (Yk 10 1) 0 0,Yd 1 (Yk 11 1) 0 0,Yd 2 (Yk 12 1) 0 0,Yd 3 (oO 13 (.nilck (tT 12))) 4 0,Yd 4 (Ya 14 0 13) 12 0,Yd 5 (Yk 15 14) 28 0,Yd 6 (oO 16 (.mslice [nS] 24 (tT 15) (tT 15))) 60 0,
 Yd 7 (Yk 17 1) 0 0,Yd 8 (oO 18 (.nilck (tT 17))) 128 0,Yd 9 (Ya 19 0 18) 384 0,Yd 10 (Yk 20 19) 896 0,Yd 11 (oO 21 (.mslice [nS] 24 (tT 20) (tT 20))) 1920 0,Yd 12 (oO 22 (.nilck (tT 10))) 2045 0,Yd 13 (Ya 23 2 22) 6141 0,
 Yd 14 (Ys 1 23 16) 14333 28666,Yd 15 (oO 24 (.nilck (tT 11))) 32767 1,Yd 16 (Ya 25 3 24) 65535 1,Yd 17 (Ys 1 25 21) 131071 1]) (Yr [Yk 26 1,oO 27 (.nilck (tT 26)),Ya 28 0 27,Yk 29 28,oO 30 (.mslice [nS] 24 (tT 29) (tT 29)),
 oM 2 30] (sQ (Yr [Yk 31 1,oO 32 (.nilck (tT 31)),Ya 33 1 32,Yk 34 33,Yn 35 34,oO 36 (.mov (kI 0))] (.block 0 (.loop (Yr [oO 37 (.bin .lss .num (tT 36) (tT 35))] (sQ (.cond (tT 37) .skip (.exit 0)) (sQ (.block 1 (Yr [Yi 38 2 34 36,
 Yl 39 2 38,oO 4 (.alloc [(.int .i64 0),(.int .i64 0)]),Ys 2 4 39] (.draw [Yd 0 (oM 40 2) 0 0,Yd 1 (oO 41 (.iaddrA 2 1 (tT 4) (kI 1))) 0 0,Yd 2 (Yk 42 41) 2 0,Yd 3 (oM 43 2) 0 0,Yd 4 (oO 44 (.iaddrA 2 1 (tT 4) (kI 1))) 0 0,
 Yd 5 (Yk 45 44) 16 0,Yd 6 (Yi 46 1 43 45) 56 0,Yd 7 (Yk 47 46) 120 0,Yd 8 (oO 48 (.iaddrA 2 1 (tT 4) (kI 0))) 0 0,Yd 9 (Yk 49 48) 256 0,Yd 10 (oO 50 (.bslice [(.int .i64 0)] 1 [(0,(tT 49))])) 768 0,Yd 11 (oO 51 (.append [(.int .i64 0)] 8 (tT 47) (tT 50))) 2040 4080,
 Yd 12 (Yi 52 1 40 42) 4095 1,Yd 13 (Ys 1 52 51) 8191 1]))) (Yg [oO 53 (.bin .add .num (tT 36) (kI 1)),oM 36 53]))))))) (Yr [Yk 54 1,oO 55 (.nilck (tT 54)),Ya 56 4 55,Yk 57 56,Yn 58 57,oO 59 (.mov (kI 0))] (.block 2 (.loop (Yr [oO 60 (.bin .lss .num (tT 59) (tT 58))] (sQ (.cond (tT 60) .skip (.exit 2)) (sQ (.block 3 (Yr [Yi 61 1 57 59,
 Yk 62 61,oO 6 (.alloc [(.int .i64 0)]),Ys 1 6 62] (sQ (Yr [oM 63 2,Yk 64 6,Yi 65 1 63 64,Yk 66 65,Yn 67 66,oO 68 (.mov (kI 0))] (.block 4 (.loop (Yr [oO 69 (.bin .lss .num (tT 68) (tT 67))] (sQ (.cond (tT 69) .skip (.exit 4)) (sQ (.block 5 (Yr [Yi 70 1 66 68,
 Yk 71 70,oM 8 71] (.draw [Yd 0 (Yk 72 1) 0 0,Yd 1 (oO 73 (.nilck (tT 72))) 1 0,Yd 2 (Ya 74 2 73) 3 0,Yd 3 (Yk 75 74) 7 0,Yd 4 (Yk 76 6) 0 0,Yd 5 (Yk 77 1) 0 0,Yd 6 (oO 78 (.nilck (tT 77))) 32 0,Yd 7 (Ya 79 2 78) 96 0,
 Yd 8 (Yk 80 79) 224 0,Yd 9 (Yk 81 6) 0 0,Yd 10 (Yi 82 1 80 81) 992 0,Yd 11 (Yl 83 1 82) 2016 0,Yd 12 (Yk 84 1) 0 0,Yd 13 (oO 85 (.nilck (tT 84))) 4096 0,Yd 14 (Ya 86 2 85) 12288 0,Yd 15 (Yk 87 86) 28672 0,
 Yd 16 (oM 88 8) 0 0,Yd 17 (Yi 89 1 87 88) 126976 0,Yd 18 (Yl 90 1 89) 258048 0,Yd 19 (Yc 91 74 [tT 83,tT 90]) 524256 0,Yd 20 (oM 92 8) 0 0,Yd 21 (Yc 93 15 [tT 91,tT 92]) 2097120 0,Yd 22 (Yi 94 1 75 76) 4194303 1,
 Yd 23 (Ys 1 94 93) 8388607 1]))) (Yg [oO 95 (.bin .add .num (tT 68) (kI 1)),oM 68 95]))))))) (sQ (.draw [Yd 0 (Yk 96 1) 0 0,Yd 1 (oO 97 (.nilck (tT 96))) 1 0,Yd 2 (Ya 98 2 97) 3 0,Yd 3 (Yk 99 98) 7 0,Yd 4 (Yk 100 6) 0 0,
 Yd 5 (Yi 101 1 99 100) 31 1,Yd 6 (Yl 102 1 101) 63 1,Yd 7 (Yc 103 85 [tT 102]) 127 1]) (.block 6 (.range (tT 103) [104] [(9,(tT 104))] (.block 7 (.draw [Yd 0 (Yk 105 1) 0 0,Yd 1 (oO 106 (.nilck (tT 105))) 1 0,
 Yd 2 (Ya 107 3 106) 3 0,Yd 3 (Yk 108 107) 7 0,Yd 4 (oM 109 9) 0 0,Yd 5 (Yk 110 1) 0 0,Yd 6 (oO 111 (.nilck (tT 110))) 32 0,Yd 7 (Ya 112 3 111) 96 0,Yd 8 (Yk 113 112) 224 0,Yd 9 (oM 114 9) 0 0,Yd 10 (Yi 115 1 113 114) 992 0,
 Yd 11 (Yl 116 1 115) 2016 0,Yd 12 (Yk 117 6) 0 0,Yd 13 (Yc 118 15 [tT 116,tT 117]) 8160 0,Yd 14 (Yi 119 1 108 109) 16383 1,Yd 15 (Ys 1 119 118) 32767 1])))))))) (Yg [oO 120 (.bin .add .num (tT 59) (kI 1)),
 oM 59 120])))))))))))
theorem ok108 : FnOk Tryz.prog 108 121 ir108 [] := Yf Tryz.func108 Tryz.ntmps108 mixed
def ir109 : ACode := (Yr [oO 2 (.mov kF)] (Yr [oM 3 0,oO 4 (.bin .geq .num (tT 3) (kI 1)),oM 5 4,oT 5 6 (.mov (tT 0)),oT 5 7 (.bin .leq .num (tT 6) (kI 63)),oO 8 (.pick (tT 5) (tT 7) kF),oM 2 8] .ret))
theorem ok109 : FnOk Tryz.prog 109 9 ir109 [.tmp 2] := Yf Tryz.func109 Tryz.ntmps109 mixed
def ir110 : ACode := (Yr [oO 6 (.mov kF)] (sQ (Yr [oM 9 0,Yn 10 9,oO 11 (.mov (kI 0))] (.block 0 (.loop (Yr [oO 12 (.bin .lss .num (tT 11) (tT 10))] (sQ (.cond (tT 12) .skip (.exit 0)) (sQ (.block 1 (Yr [Yi 13 2 9 11,
 Yl 14 2 13,oO 8 (.alloc [(.int .i64 0),(.int .i64 0)]),Ys 2 8 14] (Yr [oO 15 (.iaddrA 2 1 (tT 8) (kI 0)),Yk 16 15,oM 17 1,oO 18 (.bin .eql .num (tT 16) (tT 17)),oM 19 18,oT 19 20 (.iaddrA 2 1 (tT 8) (kI 1)),
 oT 19 21 (.load false 1 (tT 20)),oT 19 22 (.mov (tT 2)),oT 19 23 (.bin .eql .num (tT 21) (tT 22)),oO 24 (.pick (tT 19) (tT 23) kF)] (.cond (tT 24) (Yr [oO 6 (.mov kT)] .ret) .skip)))) (Yg [oO 25 (.bin .add .num (tT 11) (kI 1)),
 oM 11 25]))))))) (Yr [oO 6 (.mov kF)] .ret)))
theorem ok110 : FnOk Tryz.prog 110 26 ir110 [.tmp 6] := Yf Tryz.func110 Tryz.ntmps110 mixed
def ir111 : ACode := (Yr [oO 6 (.mov kF)] (Yr [oM 7 2,Yc 8 109 [tT 7],oM 9 8,oT 9 10 (.mov (tT 0)),oT 9 11 (.mov (tT 1)),oT 9 12 (kC 112 [tT 10,tT 11]),oT 9 13 (.mov (tT 2)),oT 9 14 (.bin .shr .num (tT 12) (tT 13)),
 oT 9 15 (.bin .rem .num (tT 14) (.const (.int .u64 2))),oT 9 16 (.bin .eql .num (tT 15) (.const (.int .u64 1))),oO 17 (.pick (tT 9) (tT 16) kF),oM 6 17] .ret))
theorem ok111 : FnOk Tryz.prog 111 18 ir111 [.tmp 6] := Yf Tryz.func111 Tryz.ntmps111 mixed
def ir112 : ACode := (Yr [oO 4 (.mov (.const (.int .u64 0)))] (sQ (Yr [oM 9 1,Yc 10 109 [tT 9],oO 11 (.una .not (tT 10))] (.cond (tT 11) (Yr [oO 4 (.mov (.const (.int .u64 0)))] .ret) .skip)) (Yr [oM 12 1,
 oO 13 (.bin .shl .num (.const (.int .u64 1)) (tT 12)),oM 5 13] (.block 0 (.loop (.block 1 (Yr [oM 14 5,oM 6 14] (sQ (Yr [oM 15 0,Yn 16 15,oO 17 (.mov (kI 0))] (.block 2 (.loop (Yr [oO 18 (.bin .lss .num (tT 17) (tT 16))] (sQ (.cond (tT 18) .skip (.exit 2)) (sQ (.block 3 (Yr [Yi 19 2 15 17,
 Yl 20 2 19,oO 8 (.alloc [(.int .i64 0),(.int .i64 0)]),Ys 2 8 20] (Yr [oM 21 5,oO 22 (.iaddrA 2 1 (tT 8) (kI 0)),Yk 23 22,oO 24 (.bin .shr .num (tT 21) (tT 23)),oO 25 (.bin .rem .num (tT 24) (.const (.int .u64 2))),
 oO 26 (.bin .eql .num (tT 25) (.const (.int .u64 1)))] (.cond (tT 26) (Yg [oM 27 6,oO 28 (.iaddrA 2 1 (tT 8) (kI 1)),Yk 29 28,oO 30 (.bin .shl .num (.const (.int .u64 1)) (tT 29)),oO 31 (.bin .or .num (tT 27) (tT 30)),
 oM 6 31]) .skip)))) (Yg [oO 32 (.bin .add .num (tT 17) (kI 1)),oM 17 32]))))))) (sQ (Yr [oM 33 6,oM 34 5,oO 35 (.bin .eql .num (tT 33) (tT 34))] (.cond (tT 35) (Yr [oM 36 5,oM 4 36] .ret) .skip)) (Yg [oM 37 6,
 oM 5 37]))))))))))
theorem ok112 : FnOk Tryz.prog 112 38 ir112 [.tmp 4] := Yf Tryz.func112 Tryz.ntmps112 mixed
def ir113 : ACode := (Yr [oO 2 (.mov kF)] (Yr [oM 3 0,oO 4 (.bin .geq .num (tT 3) (kI 1)),oM 5 4,oT 5 6 (.mov (tT 0)),oT 5 7 (.bin .leq .num (tT 6) (kI 63)),oO 8 (.pick (tT 5) (tT 7) kF),oM 2 8] .ret))
theorem ok113 : FnOk Tryz.prog 113 9 ir113 [.tmp 2] := Yf Tryz.func113 Tryz.ntmps113 mixed
def ir114 : ACode := (Yr [oO 6 (.mov (.const (.pointer none))),oO 7 (.mov (kI 0))] (sQ (Yr [oM 8 0,oO 9 (.bin .eql .ptr (tT 8) (.const (.pointer none)))] (.cond (tT 9) (Yr [oO 6 (.mov (.const (.pointer none))),
 oO 7 (.mov (kI 1))] .ret) .skip)) (sQ (Yr [oM 10 0,oM 11 1,Yc 12 149 [tT 10,tT 11],oO 13 (.una .not (tT 12)),oM 14 13,oF 14 15 (.mov (tT 0)),oF 14 16 (.mov (tT 2)),oF 14 17 (kC 149 [tT 15,tT 16]),oF 14 18 (.una .not (tT 17)),
 oO 19 (.pick (tT 14) kT (tT 18))] (.cond (tT 19) (Yr [oO 6 (.mov (.const (.pointer none))),oO 7 (.mov (kI 2))] .ret) .skip)) (sQ (Yr [oM 20 0,oO 21 (.nilck (tT 20)),Ya 22 1 21,Yk 23 22,oM 24 1,oM 25 2,
 oO 26 (.build [(.int .i64 0),(.int .i64 0)] [(0,1,(tT 24)),(1,1,(tT 25))]),Yc 27 150 [tT 23,tT 26]] (.cond (tT 27) (Yr [oO 6 (.mov (.const (.pointer none))),oO 7 (.mov (kI 5))] .ret) .skip)) (sQ (.draw [Yd 0 (oM 28 0) 0 0,
 Yd 1 (oO 29 (.nilck (tT 28))) 1 0,Yd 2 (Ya 30 0 29) 3 0,Yd 3 (Yk 31 30) 7 0,Yd 4 (oM 32 0) 0 0,Yd 5 (Yc 33 151 [tT 32]) 16 0,Yd 6 (oM 34 1) 0 0,Yd 7 (oM 35 2) 0 0,Yd 8 (oO 36 (.build [(.int .i64 0),(.int .i64 0)] [(0,
 1,(tT 34)),(1,1,(tT 35))])) 192 0,Yd 9 (oO 37 (.bslice [(.int .i64 0),(.int .i64 0)] 1 [(0,(tT 36))])) 448 0,Yd 10 (oO 38 (.append [(.int .i64 0),(.int .i64 0)] 16 (tT 33) (tT 37))) 1008 2016,Yd 11 (Yc 39 48 [tT 31,
 tT 38]) 2047 1,Yd 12 (Yx 40 39 0) 4095 1,Yd 13 (Yx 41 39 1) 4095 1,Yd 14 (oM 6 40) 16383 1,Yd 15 (oM 7 41) 32767 1]) .ret)))))
theorem ok114 : FnOk Tryz.prog 114 42 ir114 [.tmp 6, .tmp 7] := Yf Tryz.func114 Tryz.ntmps114 mixed
def ir117 : ACode := (Yr [oM 4 0,oO 5 (.bin .neq .ptr (tT 4) (.const (.pointer none)))] (.cond (tT 5) (Yg [oM 6 0,oM 7 0,oO 8 (.nilck (tT 7)),Ya 9 0 8,Yk 10 9,oM 11 1,oO 12 (.append [Yu] 1 (tT 10) (tT 11)),
 oO 13 (.nilck (tT 6)),Ya 14 0 13,Ys 1 14 12]) .skip))
theorem ok117 : FnOk Tryz.prog 117 15 ir117 [] := Yf Tryz.func117 Tryz.ntmps117 mixed
def ir118 : ACode := (Yr [oO 2 (.mov (.const nS))] (Yr [oM 4 0,oO 5 (.bin .and .num (tT 4) (.const (.int .u64 127))),oO 6 (.conv .u8 (tT 5)),oO 7 (.bslice [Yu] 1 [(0,(tT 6))]),oM 3 7] (sQ (Yr [oM 8 0,oO 9 (.bin .shr .num (tT 8) (.const (.int .u64 7))),
 oM 0 9] (.block 0 (.loop (sQ (Yr [oM 10 0,oO 11 (.bin .gtr .num (tT 10) (.const (.int .u64 0)))] (.cond (tT 11) .skip (.exit 0))) (sQ (.block 1 (Yg [oM 14 3,oM 15 0,oO 16 (.bin .and .num (tT 15) (.const (.int .u64 127))),
 oO 17 (.conv .u8 (tT 16)),oO 18 (.bin .or .num (tT 17) (.const (.int .u8 128))),oO 19 (.bslice [Yu] 1 [(0,(tT 18))]),oO 20 (.append [Yu] 1 (tT 14) (tT 19)),oM 3 20])) (Yg [oM 12 0,oO 13 (.bin .shr .num (tT 12) (.const (.int .u64 7))),
 oM 0 13])))))) (Yr [oM 21 3,Yc 22 154 [tT 21]] (Yr [oM 23 3,oM 2 23] .ret)))))
theorem ok118 : FnOk Tryz.prog 118 24 ir118 [.tmp 2] := Yf Tryz.func118 Tryz.ntmps118 mixed
def ir119 : ACode := (Yr [oO 2 (.mov (.const nS))] (sQ (Yr [oM 3 0,oO 4 (.bin .eql .ptr (tT 3) (.const (.pointer none)))] (.cond (tT 4) (Yr [oO 2 (.mov (.const nS))] .ret) .skip)) (Yr [oM 5 0,oO 6 (.nilck (tT 5)),
 Ya 7 0 6,Yk 8 7,Yc 9 151 [tT 8],oM 2 9] .ret)))
theorem ok119 : FnOk Tryz.prog 119 10 ir119 [.tmp 2] := Yf Tryz.func119 Tryz.ntmps119 mixed
def ir120 : ACode := (Yr [Yb 1 0,oO 2 (.mov (.const nS))] (Yr [Yl 8 1 1,Yc 9 155 [tT 8],oM 7 9,Yx 10 7 0,Yx 11 7 1,oM 3 10,oM 4 11] (sQ (Yr [oM 12 4,oO 13 (.una .not (tT 12))] (.cond (tT 13) (Yr [oO 2 (.mov (.const nS))] .ret) .skip)) (Yr [oM 14 3,
 oO 15 (.bin .quo .num (tT 14) (kI 8)),oO 16 (.bin .add .num (tT 15) (kI 1)),oO 17 (.mslice [Yu] 1 (tT 16) (tT 16)),oM 5 17] (sQ (Yr [oM 18 5,Yn 19 18,oO 20 (.mov (kI 0))] (.block 0 (.loop (Yr [oO 21 (.bin .lss .num (tT 20) (tT 19))] (sQ (.cond (tT 21) .skip (.exit 0)) (sQ (.block 1 (Yr [oM 22 20,
 oM 6 22] (Yg [oM 23 5,oM 24 6,Ya 25 0 1,Yk 26 25,oM 27 6,oO 28 (.bin .quo .num (tT 27) (kI 8)),Yi 29 1 26 28,Yk 30 29,oM 31 6,oO 32 (.bin .rem .num (tT 31) (kI 8)),oO 33 (.bin .mul .num (kI 8) (tT 32)),
 oO 34 (.bin .shr .num (tT 30) (tT 33)),oO 35 (.conv .u8 (tT 34)),Yi 36 1 23 24,Ys 1 36 35]))) (Yg [oO 37 (.bin .add .num (tT 20) (kI 1)),oM 20 37]))))))) (Yr [oM 38 5,oM 2 38] .ret))))))
theorem ok120 : FnOk Tryz.prog 120 39 ir120 [.tmp 2] := Yf Tryz.func120 Tryz.ntmps120 mixed
def ir121 : ACode := (Yg [oM 4 0,oM 5 1,oO 6 (.s2b (tT 5)),Yc 7 63 [tT 4,tT 6]])
theorem ok121 : FnOk Tryz.prog 121 8 ir121 [] := Yf Tryz.func121 Tryz.ntmps121 mixed
def ir122 : ACode := (Yr [oO 2 (.alloc Y1)] (Yr [Yc 4 156 [],oM 3 4] (Yr [oM 5 3,oM 6 0,Yc 7 157 [tT 5,tT 6]] (Yr [oM 8 3,Yc 9 158 [tT 8],Ys 32 2 9] .ret))))
theorem ok122 : FnOk Tryz.prog 122 10 ir122 [.cell 2 true 32] := Yf Tryz.func122 Tryz.ntmps122 mixed
def ir123 : ACode := (Yr [oO 2 (.mov (.const nS))] (sQ (Yr [oM 3 0,oO 4 (.isnil false (tT 3))] (.cond (tT 4) (Yr [oO 2 (.mov (.const nS))] .ret) .skip)) (Yr [oO 5 (.bslice [Yu] 0 []),oM 6 0,oO 7 (.append [Yu] 1 (tT 5) (tT 6)),
 oM 2 7] .ret)))
theorem ok123 : FnOk Tryz.prog 123 8 ir123 [.tmp 2] := Yf Tryz.func123 Tryz.ntmps123 mixed
def ir124 : ACode := (Yr [oO 4 (.mov (kI 0))] (sQ (Yr [oM 6 0,Yn 7 6,oO 8 (.mov (kI 0))] (.block 0 (.loop (Yr [oO 9 (.bin .lss .num (tT 8) (tT 7))] (sQ (.cond (tT 9) .skip (.exit 0)) (sQ (.block 1 (Yr [oM 10 8,
 oM 5 10] (Yr [oM 11 1,oM 12 0,oM 13 5,Yi 14 1 12 13,Yk 15 14,oO 16 (.call (tT 11) [tT 15])] (.cond (tT 16) (Yr [oM 17 5,oM 4 17] .ret) .skip)))) (Yg [oO 18 (.bin .add .num (tT 8) (kI 1)),oM 8 18]))))))) (Yr [oO 4 (.mov (.const (.int .i64 (-1))))] .ret)))
theorem ok124 : FnOk Tryz.prog 124 19 ir124 [.tmp 4] := Yf Tryz.func124 Tryz.ntmps124 mixed
def ir125 : ACode := (Yr [Yb 2 0,oO 3 (.mov kF)] (Yr [Yl 4 2 2,Yl 5 1 1,Yc 6 36 [tT 4,tT 5],oM 3 6] .ret))
theorem ok125 : FnOk Tryz.prog 125 7 ir125 [.tmp 3] := Yf Tryz.func125 Tryz.ntmps125 mixed
def ir126 : ACode := (Yr [Yb 2 0,oO 4 (.alloc [nS]),oO 5 (.mov kF)] (sQ (.draw [Yd 0 (Yl 6 6 2) 0 0,Yd 1 (oM 7 1) 0 0,Yd 2 (Yl 8 6 2) 0 0,Yd 3 (oM 9 1) 0 0,Yd 4 (Yc 10 160 [tT 8,tT 9]) 12 0,Yd 5 (Ya 11 0 2) 0 0,
 Yd 6 (Yk 12 11) 32 0,Yd 7 (oO 13 (.bin .add .num (tT 12) (kI 1))) 96 0,Yd 8 (Yc 14 73 [tT 13]) 252 0,Yd 9 (Yc 15 140 [tT 10,tT 14]) 508 0,Yd 10 (oO 16 (.build [nS] [])) 0 0,Yd 11 (Yc 17 159 [tT 6,tT 7,
 tT 15,tT 16]) 2047 1,Yd 12 (Yx 18 17 0) 4095 1,Yd 13 (Yx 19 17 1) 4095 1,Yd 14 (Ys 1 4 18) 16383 1,Yd 15 (oM 5 19) 32767 1]) .ret))
theorem ok126 : FnOk Tryz.prog 126 20 ir126 [.cell 4 true 1, .tmp 5] := Yf Tryz.func126 Tryz.ntmps126 mixed
def ir127 : ACode := (Yr [Yb 2 0,oO 4 (.mov kF)] (sQ (.draw [Yd 0 (Ya 5 4 2) 0 0,Yd 1 (Yk 6 5) 1 0,Yd 2 (Ya 7 1 2) 0 0,Yd 3 (Yk 8 7) 4 0,Yd 4 (oM 9 1) 0 0,Yd 5 (Yc 10 54 [tT 8,tT 9]) 28 0,Yd 6 (Yc 11 82 [tT 6,
 tT 10]) 63 1,Yd 7 (oO 12 (.una .not (tT 11))) 127 1,Yd 8 (oM 4 12) 255 1]) .ret))
theorem ok127 : FnOk Tryz.prog 127 13 ir127 [.tmp 4] := Yf Tryz.func127 Tryz.ntmps127 mixed
def ir128 : ACode := (Yr [Ya 5 0 1,Yk 6 5,Yn 7 6,oO 8 (.mov (kI 0))] (.block 0 (.loop (Yr [oO 9 (.bin .lss .num (tT 8) (tT 7))] (sQ (.cond (tT 9) .skip (.exit 0)) (sQ (.block 1 (Yr [oM 10 8,Yi 11 1 6 8,
 Yk 12 11,oM 3 10,oM 4 12] (.block 2 (.loop (sQ (Yr [oM 13 4,oO 14 (.bin .neq .num (tT 13) (.const (.int .u64 0)))] (.cond (tT 14) .skip (.exit 2))) (sQ (.block 3 (Yr [oM 19 0,oM 20 3,oO 21 (.bin .mul .num (kI 64) (tT 20)),
 oM 22 4,Yc 23 129 [tT 22],oO 24 (.bin .add .num (tT 21) (tT 23)),oO 25 (.call (tT 19) [tT 24]),oO 26 (.una .not (tT 25))] (.cond (tT 26) .ret .skip))) (Yg [oM 15 4,oM 16 4,oO 17 (.bin .sub .num (tT 16) (.const (.int .u64 1))),
 oO 18 (.bin .and .num (tT 15) (tT 17)),oM 4 18]))))))) (Yg [oO 27 (.bin .add .num (tT 8) (kI 1)),oM 8 27])))))))
theorem ok128 : FnOk Tryz.prog 128 28 ir128 [] := Yf Tryz.func128 Tryz.ntmps128 mixed
def ir129 : ACode := (Yr [oO 2 (.mov (kI 0))] (sQ (Yr [oM 3 0,oO 4 (.bin .eql .num (tT 3) (.const (.int .u64 0)))] (.cond (tT 4) (Yr [oO 2 (.mov (kI 64))] .ret) .skip)) (Yr [oM 5 0,oM 6 0,oO 7 (.una .neg (tT 6)),
 oO 8 (.bin .and .num (tT 5) (tT 7)),oO 9 (.bin .mul .num (tT 8) (.const (.int .u64 285870213051353865))),oO 10 (.bin .shr .num (tT 9) (.const (.int .u64 58))),oO 11 (.iaddrA 64 1 (.global 0) (tT 10)),Yk 12 11,
 oO 13 (.conv .i64 (tT 12)),oM 2 13] .ret)))
theorem ok129 : FnOk Tryz.prog 129 14 ir129 [.tmp 2] := Yf Tryz.func129 Tryz.ntmps129 mixed
def ir130 : ACode := (Yr [oO 4 (.alloc [nS])] (sQ (Yr [oM 5 0,oM 6 1,Yc 7 149 [tT 5,tT 6],oO 8 (.una .not (tT 7))] (.cond (tT 8) (Yr [oO 9 (.build [nS] []),Ys 1 4 9] .ret) .skip)) (Yr [oM 10 0,oO 11 (.nilck (tT 10)),
 Ya 12 3 11,Yk 13 12,oM 14 1,Yi 15 1 13 14,Yl 16 1 15,Ys 1 4 16] .ret)))
theorem ok130 : FnOk Tryz.prog 130 17 ir130 [.cell 4 true 1] := Yf Tryz.func130 Tryz.ntmps130 mixed
def ir131 : ACode := (Yr [Yb 3 1,oO 4 (.mov kF)] (Yr [oM 5 0,oO 6 (.mkfn 162 [tT 3]),Yc 7 161 [tT 5,tT 6],oO 8 (.una .not (tT 7)),oM 4 8] .ret))
theorem ok131 : FnOk Tryz.prog 131 9 ir131 [.tmp 4] := Yf Tryz.func131 Tryz.ntmps131 mixed
def ir132 : ACode := (Yr [Yb 2 0,oO 3 (.mov kF)] (Yr [Yl 4 1 1,oO 5 (.iaddrA 2 1 (tT 2) (kI 0)),Yk 6 5,Yc 7 35 [tT 4,tT 6],oM 8 7,oT 8 9 (.load true 1 (tT 1)),oT 8 10 (.iaddrA 2 1 (tT 2) (kI 1)),oT 8 11 (.load false 1 (tT 10)),
 oT 8 12 (kC 35 [tT 9,tT 11]),oO 13 (.pick (tT 8) (tT 12) kF),oM 3 13] .ret))
theorem ok132 : FnOk Tryz.prog 132 14 ir132 [.tmp 3] := Yf Tryz.func132 Tryz.ntmps132 mixed
def ir133 : ACode := (Yr [Yb 2 0,oO 3 (.mov kF)] (Yr [Yl 4 1 1,Ya 5 3 2,Yk 6 5,Yc 7 35 [tT 4,tT 6],oM 3 7] .ret))
theorem ok133 : FnOk Tryz.prog 133 8 ir133 [.tmp 3] := Yf Tryz.func133 Tryz.ntmps133 mixed
def ir134 : ACode := (Yr [Yb 3 1,oO 4 (.mov kF)] (Yr [oM 5 0,oO 6 (.mkfn 163 [tT 3]),Yc 7 92 [tT 5,tT 6],oO 8 (.una .not (tT 7)),oM 4 8] .ret))
theorem ok134 : FnOk Tryz.prog 134 9 ir134 [.tmp 4] := Yf Tryz.func134 Tryz.ntmps134 mixed
def ir135 : ACode := (Yr [Yb 2 0,oO 3 (.mov kF)] (sQ (.draw [Yd 0 (Ya 4 0 2) 0 0,Yd 1 (Yl 5 1 4) 1 0,Yd 2 (Ya 6 1 2) 0 0,Yd 3 (Yl 7 1 6) 4 0,Yd 4 (Yc 8 74 [tT 5,tT 7]) 15 0,Yd 5 (Yl 9 1 1) 0 0,Yd 6 (Yc 10 75 [tT 8,
 tT 9]) 63 1,Yd 7 (oM 3 10) 127 1]) .ret))
theorem ok135 : FnOk Tryz.prog 135 11 ir135 [.tmp 3] := Yf Tryz.func135 Tryz.ntmps135 mixed
def ir136 : ACode := (Yr [oO 4 (.mov (kI 0))] (sQ (Yr [oM 6 0,Yn 7 6,oO 8 (.mov (kI 0))] (.block 0 (.loop (Yr [oO 9 (.bin .lss .num (tT 8) (tT 7))] (sQ (.cond (tT 9) .skip (.exit 0)) (sQ (.block 1 (Yr [oM 10 8,
 oM 5 10] (Yr [oM 11 1,oM 12 0,oM 13 5,Yi 14 2 12 13,Yl 15 2 14,oO 16 (.call (tT 11) [tT 15])] (.cond (tT 16) (Yr [oM 17 5,oM 4 17] .ret) .skip)))) (Yg [oO 18 (.bin .add .num (tT 8) (kI 1)),oM 8 18]))))))) (Yr [oO 4 (.mov (.const (.int .i64 (-1))))] .ret)))
theorem ok136 : FnOk Tryz.prog 136 19 ir136 [.tmp 4] := Yf Tryz.func136 Tryz.ntmps136 mixed
def ir137 : ACode := (Yr [oO 4 (.mov kF)] (Yr [oM 5 0,oM 6 1,Yc 7 164 [tT 5,tT 6],oO 8 (.bin .geq .num (tT 7) (kI 0)),oM 4 8] .ret))
theorem ok137 : FnOk Tryz.prog 137 9 ir137 [.tmp 4] := Yf Tryz.func137 Tryz.ntmps137 mixed
def ir138 : ACode := (Yr [Yb 2 0,oO 3 (.mov kF)] (Yr [Yk 4 1,Yl 5 5 2,oO 6 (.call (tT 4) [tT 5]),oO 7 (.una .not (tT 6)),oM 3 7] .ret))
theorem ok138 : FnOk Tryz.prog 138 8 ir138 [.tmp 3] := Yf Tryz.func138 Tryz.ntmps138 mixed
def ir139 : ACode := (Yr [oO 4 (.alloc [nS])] (sQ (Yr [oM 5 0,oO 6 (.bin .eql .ptr (tT 5) (.const (.pointer none))),oM 7 6,oF 7 8 (.mov (tT 1)),oF 7 9 (kC 113 [tT 8]),oF 7 10 (.una .not (tT 9)),oO 11 (.pick (tT 7) kT (tT 10))] (.cond (tT 11) (Yr [oO 12 (.build [nS] []),
 Ys 1 4 12] .ret) .skip)) (Yr [oM 13 0,oO 14 (.nilck (tT 13)),Ya 15 0 14,Yk 16 15,oM 17 1,Yc 18 165 [tT 16,tT 17],oM 19 1,Yc 20 15 [tT 18,tT 19],Ys 1 4 20] .ret)))
theorem ok139 : FnOk Tryz.prog 139 21 ir139 [.cell 4 true 1] := Yf Tryz.func139 Tryz.ntmps139 mixed
def ir140 : ACode := (Yr [Yb 2 0,Yb 3 1,oO 4 (.alloc [nS])] (Yr [Ya 7 0 2,Yk 8 7,Yn 9 8,Ya 10 0 3,Yk 11 10,Yn 12 11,oO 13 (.mn (tT 9) (tT 12)),oO 14 (.mslice [(.int .u64 0)] 8 (tT 13) (tT 13)),oM 5 14] (sQ (Yr [oM 15 5,
 Yn 16 15,oO 17 (.mov (kI 0))] (.block 0 (.loop (Yr [oO 18 (.bin .lss .num (tT 17) (tT 16))] (sQ (.cond (tT 18) .skip (.exit 0)) (sQ (.block 1 (Yr [oM 19 17,oM 6 19] (.draw [Yd 0 (oM 20 5) 0 0,Yd 1 (oM 21 6) 0 0,
 Yd 2 (Ya 22 0 2) 0 0,Yd 3 (Yk 23 22) 4 0,Yd 4 (oM 24 6) 0 0,Yd 5 (Yi 25 1 23 24) 28 0,Yd 6 (Yk 26 25) 60 0,Yd 7 (Ya 27 0 3) 0 0,Yd 8 (Yk 28 27) 128 0,Yd 9 (oM 29 6) 0 0,Yd 10 (Yi 30 1 28 29) 896 0,Yd 11 (Yk 31 30) 1920 0,
 Yd 12 (oO 32 (.bin .and .num (tT 26) (tT 31))) 4092 1,Yd 13 (Yi 33 1 20 21) 8191 1,Yd 14 (Ys 1 33 32) 16383 1]))) (Yg [oO 34 (.bin .add .num (tT 17) (kI 1)),oM 17 34]))))))) (Yr [oM 35 5,Yc 36 47 [tT 35],
 Ys 1 4 36] .ret))))
theorem ok140 : FnOk Tryz.prog 140 37 ir140 [.cell 4 true 1] := Yf Tryz.func140 Tryz.ntmps140 mixed
def ir141 : ACode := (Yr [oO 2 (.mov (.const nS))] (Yr [oM 10 0,Yc 11 46 [tT 10],oM 3 11] (Yr [oM 12 3,Yc 13 166 [tT 12,(.func 167)]] (Yr [oM 14 3,Yc 15 168 [tT 14,(.func 169)],oM 3 15] (Yr [oO 4 (.mov (.const nS))] (sQ (Yr [oM 16 3,
 Yn 17 16,oO 18 (.mov (kI 0))] (.block 0 (.loop (Yr [oO 19 (.bin .lss .num (tT 18) (tT 17))] (sQ (.cond (tT 19) .skip (.exit 0)) (sQ (.block 1 (Yr [oM 20 18,Yi 21 2 16 18,Yl 22 2 21,oO 6 (.alloc [nS,nS]),
 oM 5 20,Ys 2 6 22] (Yr [Yl 23 2 6,Yc 24 76 [tT 23],oM 7 24] (sQ (Yr [oM 25 3,Yn 26 25,oO 27 (.mov (kI 0))] (.block 2 (.loop (Yr [oO 28 (.bin .lss .num (tT 27) (tT 26))] (sQ (.cond (tT 28) .skip (.exit 2)) (sQ (.block 3 (Yr [oM 29 27,
 Yi 30 2 25 27,Yl 31 2 30,oO 9 (.alloc [nS,nS]),oM 8 29,Ys 2 9 31] (Yg [oM 32 7,oM 33 32,oF 33 34 (.mov (tT 8)),oF 33 35 (.mov (tT 5)),oF 33 36 (.bin .neq .num (tT 34) (tT 35)),oF 33 37 (.mov (tT 36)),oT 37 38 (.load true 2 (tT 9)),
 oT 37 39 (kC 76 [tT 38]),oT 37 40 (.una .not (tT 39)),oF 33 41 (.pick (tT 37) (tT 40) kF),oF 33 42 (.mov (tT 41)),oT 42 43 (.load true 2 (tT 6)),oT 42 44 (.load true 2 (tT 9)),oT 42 45 (kC 170 [tT 43,tT 44]),
 oF 33 46 (.pick (tT 42) (tT 45) kF),oO 47 (.pick (tT 33) kT (tT 46)),oM 7 47]))) (Yg [oO 48 (.bin .add .num (tT 27) (kI 1)),oM 27 48]))))))) (Yr [oM 49 7,oO 50 (.una .not (tT 49))] (.cond (tT 50) (Yg [oM 51 4,
 Yl 52 2 6,oO 53 (.bslice [nS,nS] 1 [(0,(tT 52))]),oO 54 (.append [nS,nS] 48 (tT 51) (tT 53)),oM 4 54]) .skip)))))) (Yg [oO 55 (.bin .add .num (tT 18) (kI 1)),oM 18 55]))))))) (Yr [oM 56 4,oM 2 56] .ret)))))))
theorem ok141 : FnOk Tryz.prog 141 57 ir141 [.tmp 2] := Yf Tryz.func141 Tryz.ntmps141 mixed
def ir142 : ACode := (Yr [Yb 2 0,oO 4 (.mov (.const nS)),oO 5 (.mov (kI 0))] (Yr [oO 6 (.mov (.const nS))] (sQ (Yr [Yl 12 2 2,Yc 13 76 [tT 12],oO 14 (.una .not (tT 13))] (.cond (tT 14) (Yg [oM 15 6,Yl 16 2 2,
 oO 17 (.bslice [nS,nS] 1 [(0,(tT 16))]),oO 18 (.append [nS,nS] 48 (tT 15) (tT 17)),oM 6 18]) .skip)) (sQ (Yr [oM 19 1,Yn 20 19,oO 21 (.mov (kI 0))] (.block 0 (.loop (Yr [oO 22 (.bin .lss .num (tT 21) (tT 20))] (sQ (.cond (tT 22) .skip (.exit 0)) (sQ (.block 1 (Yr [Yi 23 2 19 21,
 Yl 24 2 23,oO 8 (.alloc [nS,nS]),Ys 2 8 24] (Yr [oO 9 (.mov (.const nS))] (sQ (Yr [oM 25 6,Yn 26 25,oO 27 (.mov (kI 0))] (.block 2 (.loop (Yr [oO 28 (.bin .lss .num (tT 27) (tT 26))] (sQ (.cond (tT 28) .skip (.exit 2)) (sQ (.block 3 (Yr [Yi 29 2 25 27,
 Yl 30 2 29,oO 11 (.alloc [nS,nS]),Ys 2 11 30] (Yg [oM 31 9,Yl 32 2 11,Yl 33 2 8,Yc 34 144 [tT 32,tT 33],oO 35 (.append [nS,nS] 48 (tT 31) (tT 34)),oM 9 35]))) (Yg [oO 36 (.bin .add .num (tT 27) (kI 1)),
 oM 27 36]))))))) (sQ (Yr [oM 37 9,Yn 38 37,oO 39 (.bin .gtr .num (tT 38) (kI 2000))] (.cond (tT 39) (Yr [oO 4 (.mov (.const nS)),oO 5 (.mov (kI 3))] .ret) .skip)) (Yg [oM 40 9,oM 6 40])))))) (Yg [oO 41 (.bin .add .num (tT 21) (kI 1)),
 oM 21 41]))))))) (Yr [oM 42 6,oM 4 42,oO 5 (.mov (kI 0))] .ret)))))
theorem ok142 : FnOk Tryz.prog 142 43 ir142 [.tmp 4, .tmp 5] := Yf Tryz.func142 Tryz.ntmps142 mixed
def ir143 : ACode := (Yr [Yb 2 0,Yb 3 1,oO 4 (.alloc [nS,nS])] (sQ (.draw [Yd 0 (Ya 5 0 2) 0 0,Yd 1 (Yl 6 1 5) 1 0,Yd 2 (Ya 7 0 3) 0 0,Yd 3 (Yl 8 1 7) 4 0,Yd 4 (Yc 9 74 [tT 6,tT 8]) 15 0,Yd 5 (Ya 10 1 2) 0 0,
 Yd 6 (Yl 11 1 10) 32 0,Yd 7 (Ya 12 1 3) 0 0,Yd 8 (Yl 13 1 12) 128 0,Yd 9 (Yc 14 74 [tT 11,tT 13]) 511 1,Yd 10 (oO 15 (.build [nS,nS] [(0,1,(tT 9)),(1,1,(tT 14))])) 1023 1,Yd 11 (Ys 2 4 15) 2047 1]) .ret))
theorem ok143 : FnOk Tryz.prog 143 16 ir143 [.cell 4 true 2] := Yf Tryz.func143 Tryz.ntmps143 mixed
def ir144 : ACode := (Yr [Yb 2 0,Yb 3 1,oO 4 (.mov (.const nS))] (sQ (Yr [Yl 9 2 2,Yc 10 76 [tT 9]] (.cond (tT 10) (Yr [oO 4 (.mov (.const nS))] .ret) .skip)) (sQ (Yr [Yl 12 2 2,Yl 13 2 3,Yc 14 145 [tT 12,
 tT 13],oM 11 14,Yx 15 11 0,Yx 16 11 1,oO 5 (.alloc [nS,nS]),Ys 2 5 15,oM 6 16] (Yr [oM 17 6,oO 18 (.una .not (tT 17))] (.cond (tT 18) (Yr [Yl 19 2 2,oO 20 (.bslice [nS,nS] 1 [(0,(tT 19))]),oM 4 20] .ret) .skip))) (Yr [oO 7 (.alloc [nS])] (sQ (Yr [Ya 21 0 3,
 Yl 22 1 21,Ya 23 1 3,Yl 24 1 23,Yc 25 74 [tT 22,tT 24],Yc 26 85 [tT 25]] (.block 0 (.range (tT 26) [27] [(8,(tT 27))] (.block 1 (.block 2 (Yr [Ya 29 0 3,Yl 30 1 29,oM 31 8,Yc 32 35 [tT 30,tT 31],oM 33 32,
 oT 33 34 (.faddr 0 (tT 2)),oT 33 35 (.load true 1 (tT 34)),oT 33 36 (.mov (tT 8)),oT 33 37 (kC 35 [tT 35,tT 36]),oT 33 38 (.una .not (tT 37)),oO 39 (.pick (tT 33) (tT 38) kF),oM 28 39] (.cond (tT 28) (sQ (.draw [Yd 0 (Yk 40 7) 0 0,
 Yd 1 (Ya 41 0 2) 0 0,Yd 2 (Yl 42 1 41) 2 0,Yd 3 (Ya 43 1 2) 0 0,Yd 4 (Yl 44 1 43) 8 0,Yd 5 (oM 45 8) 0 0,Yd 6 (Yc 46 15 [tT 44,tT 45]) 56 0,Yd 7 (oO 47 (.build [nS,nS] [(0,1,(tT 42)),(1,1,(tT 46))])) 126 0,
 Yd 8 (oO 48 (.bslice [nS,nS] 1 [(0,(tT 47))])) 254 0,Yd 9 (oO 49 (.append [nS,nS] 48 (tT 40) (tT 48))) 511 1,Yd 10 (Ys 1 7 49) 1023 1]) (Yg [Ya 50 0 2,Yl 51 1 50,oM 52 8,Yc 53 15 [tT 51,tT 52],Ya 54 0 2,
 Ys 1 54 53])) (Yr [Ya 56 1 3,Yl 57 1 56,oM 58 8,Yc 59 35 [tT 57,tT 58],oM 60 59,oT 60 61 (.faddr 1 (tT 2)),oT 60 62 (.load true 1 (tT 61)),oT 60 63 (.mov (tT 8)),oT 60 64 (kC 35 [tT 62,tT 63]),oT 60 65 (.una .not (tT 64)),
 oO 66 (.pick (tT 60) (tT 65) kF),oM 55 66] (.cond (tT 55) (sQ (.draw [Yd 0 (Yk 67 7) 0 0,Yd 1 (Ya 68 0 2) 0 0,Yd 2 (Yl 69 1 68) 2 0,Yd 3 (oM 70 8) 0 0,Yd 4 (Yc 71 15 [tT 69,tT 70]) 14 0,Yd 5 (Ya 72 1 2) 0 0,
 Yd 6 (Yl 73 1 72) 32 0,Yd 7 (oO 74 (.build [nS,nS] [(0,1,(tT 71)),(1,1,(tT 73))])) 126 0,Yd 8 (oO 75 (.bslice [nS,nS] 1 [(0,(tT 74))])) 254 0,Yd 9 (oO 76 (.append [nS,nS] 48 (tT 67) (tT 75))) 511 1,Yd 10 (Ys 1 7 76) 1023 1]) (Yg [Ya 77 1 2,
 Yl 78 1 77,oM 79 8,Yc 80 15 [tT 78,tT 79],Ya 81 1 2,Ys 1 81 80])) .skip))))))))) (Yr [Yk 82 7,oM 4 82] .ret))))))
theorem ok144 : FnOk Tryz.prog 144 83 ir144 [.tmp 4] := Yf Tryz.func144 Tryz.ntmps144 mixed
def ir145 : ACode := (Yr [Yb 2 0,Yb 3 1,oO 4 (.alloc [nS,nS]),oO 5 (.mov kF)] (Yr [Yl 7 2 2,Yl 8 2 3,Yc 9 143 [tT 7,tT 8],oO 6 (.alloc [nS,nS]),Ys 2 6 9] (sQ (Yr [Yl 10 2 6,Yc 11 76 [tT 10]] (.cond (tT 11) (Yr [oO 12 (.build [nS,
 nS] []),Ys 2 4 12,oO 5 (.mov kF)] .ret) .skip)) (Yr [Yl 13 2 6,Ys 2 4 13,oO 5 (.mov kT)] .ret))))
theorem ok145 : FnOk Tryz.prog 145 14 ir145 [.cell 4 true 2, .tmp 5] := Yf Tryz.func145 Tryz.ntmps145 mixed
def ir148 : ACode := (Yr [oO 4 (.mov (kI 0))] (sQ (Yr [oM 6 0,Yn 7 6,oO 8 (.mov (kI 0))] (.block 0 (.loop (Yr [oO 9 (.bin .lss .num (tT 8) (tT 7))] (sQ (.cond (tT 9) .skip (.exit 0)) (sQ (.block 1 (Yr [oM 10 8,
 oM 5 10] (Yr [oM 11 1,oM 12 0,oM 13 5,Yi 14 1 12 13,Yk 15 14,oO 16 (.bin .eql .num (tT 11) (tT 15))] (.cond (tT 16) (Yr [oM 17 5,oM 4 17] .ret) .skip)))) (Yg [oO 18 (.bin .add .num (tT 8) (kI 1)),oM 8 18]))))))) (Yr [oO 4 (.mov (.const (.int .i64 (-1))))] .ret)))
theorem ok148 : FnOk Tryz.prog 148 19 ir148 [.tmp 4] := Yf Tryz.func148 Tryz.ntmps148 mixed
def ir149 : ACode := (Yr [oO 4 (.mov kF)] (Yr [oM 5 0,oO 6 (.bin .neq .ptr (tT 5) (.const (.pointer none))),oM 7 6,oT 7 8 (.mov (tT 1)),oT 7 9 (.bin .geq .num (tT 8) (kI 0)),oO 10 (.pick (tT 7) (tT 9) kF),
 oM 11 10,oT 11 12 (.mov (tT 1)),oT 11 13 (.mov (tT 0)),oT 11 14 (.nilck (tT 13)),oT 11 15 (.faddr 0 (tT 14)),oT 11 16 (.load false 1 (tT 15)),oT 11 17 (.bin .lss .num (tT 12) (tT 16)),oO 18 (.pick (tT 11) (tT 17) kF),
 oM 4 18] .ret))
theorem ok149 : FnOk Tryz.prog 149 19 ir149 [.tmp 4] := Yf Tryz.func149 Tryz.ntmps149 mixed
def ir150 : ACode := (Yr [Yb 3 1,oO 4 (.mov kF)] (Yr [oM 5 0,Yl 6 2 3,Yc 7 181 [tT 5,tT 6],oO 8 (.bin .geq .num (tT 7) (kI 0)),oM 4 8] .ret))
theorem ok150 : FnOk Tryz.prog 150 9 ir150 [.tmp 4] := Yf Tryz.func150 Tryz.ntmps150 mixed
def ir151 : ACode := (Yr [oO 2 (.mov (.const nS))] (sQ (Yr [oM 3 0,oO 4 (.bin .eql .ptr (tT 3) (.const (.pointer none)))] (.cond (tT 4) (Yr [oO 2 (.mov (.const nS))] .ret) .skip)) (Yr [oM 5 0,oO 6 (.nilck (tT 5)),
 Ya 7 1 6,Yk 8 7,Yc 9 182 [tT 8],oM 2 9] .ret)))
theorem ok151 : FnOk Tryz.prog 151 10 ir151 [.tmp 2] := Yf Tryz.func151 Tryz.ntmps151 mixed
def ir154 : ACode := (Yr [oM 4 0,Yn 5 4,oO 6 (.bin .sub .num (tT 5) (kI 1)),oO 2 (.mov (kI 0)),oM 3 6] (.block 0 (.loop (sQ (Yr [oM 7 2,oM 8 3,oO 9 (.bin .lss .num (tT 7) (tT 8))] (.cond (tT 9) .skip (.exit 0))) (sQ (.block 1 (.draw [Yd 0 (oM 14 0) 0 0,
 Yd 1 (oM 15 2) 0 0,Yd 2 (oM 16 0) 0 0,Yd 3 (oM 17 3) 0 0,Yd 4 (oM 18 0) 0 0,Yd 5 (oM 19 3) 0 0,Yd 6 (Yi 20 1 18 19) 48 0,Yd 7 (Yk 21 20) 112 0,Yd 8 (oM 22 0) 0 0,Yd 9 (oM 23 2) 0 0,Yd 10 (Yi 24 1 22 23) 768 0,
 Yd 11 (Yk 25 24) 1792 0,Yd 12 (Yi 26 1 14 15) 4083 1,Yd 13 (Ys 1 26 21) 8179 1,Yd 14 (Yi 27 1 16 17) 16383 1,Yd 15 (Ys 1 27 25) 32767 1])) (Yg [oM 10 2,oO 11 (.bin .add .num (tT 10) (kI 1)),oM 12 3,oO 13 (.bin .sub .num (tT 12) (kI 1)),
 oM 2 11,oM 3 13]))))))
theorem ok154 : FnOk Tryz.prog 154 28 ir154 [] := Yf Tryz.func154 Tryz.ntmps154 mixed
def ir155 : ACode := (Yr [Yb 1 0,oO 2 (.mov (kI 0)),oO 3 (.mov kF)] (sQ (Yr [Yl 5 1 1,Yc 6 90 [tT 5]] (.cond (tT 6) (Yr [oO 2 (.mov (kI 0)),oO 3 (.mov kF)] .ret) .skip)) (Yr [Ya 7 0 1,Yk 8 7,Yn 9 8,oO 10 (.bin .sub .num (tT 9) (kI 1)),
 oM 4 10] (Yr [oM 11 4,oO 12 (.bin .mul .num (kI 64) (tT 11)),Ya 13 0 1,Yk 14 13,oM 15 4,Yi 16 1 14 15,Yk 17 16,Yc 18 180 [tT 17],oO 19 (.bin .add .num (tT 12) (tT 18)),oO 20 (.bin .sub .num (tT 19) (kI 1)),
 oM 2 20,oO 3 (.mov kT)] .ret))))
theorem ok155 : FnOk Tryz.prog 155 21 ir155 [.tmp 2, .tmp 3] := Yf Tryz.func155 Tryz.ntmps155 mixed
def ir156 : ACode := (Yr [oO 0 (.mov (.const (.pointer none)))] (Yr [oO 1 (.build [(.int .u64 0),(.int .u64 0),(.int .u64 0),(.int .u64 0),(.int .u64 0),(.int .u64 0),(.int .u64 0),(.int .u64 0),(.int .u64 0),
 (.int .u64 0),(.int .u64 0),(.int .u64 0),(.int .u64 0),(.int .u64 0),(.int .u64 0),(.int .u64 0),(.int .u64 0),(.int .u64 0),(.int .u64 0),(.int .u64 0),(.int .u64 0),(.int .u64 0),(.int .u64 0),(.int .u64 0),
 (.int .u64 0),Yu,Yu,Yu,Yu,Yu,Yu,Yu,Yu,Yu,Yu,Yu,Yu,Yu,Yu,Yu,Yu,Yu,Yu,Yu,Yu,Yu,Yu,Yu,Yu,Yu,Yu,Yu,Yu,Yu,Yu,Yu,Yu,Yu,Yu,Yu,Yu,Yu,Yu,Yu,Yu,Yu,Yu,Yu,Yu,Yu,Yu,Yu,Yu,Yu,Yu,Yu,Yu,Yu,Yu,Yu,Yu,Yu,Yu,Yu,Yu,Yu,Yu,Yu,
 Yu,Yu,Yu,Yu,Yu,Yu,Yu,Yu,Yu,Yu,Yu,Yu,Yu,Yu,Yu,Yu,Yu,Yu,Yu,Yu,Yu,Yu,Yu,Yu,Yu,Yu,Yu,Yu,Yu,Yu,Yu,Yu,Yu,Yu,Yu,Yu,Yu,Yu,Yu,Yu,Yu,Yu,Yu,Yu,Yu,Yu,Yu,Yu,Yu,Yu,Yu,Yu,Yu,Yu,Yu,Yu,Yu,Yu,Yu,Yu,Yu,Yu,Yu,Yu,Yu,Yu,Yu,
 Yu,Yu,Yu,Yu,Yu,Yu,(.int .i64 0),(.int .u64 0)] []),Yb 2 1,oM 0 2] .ret))
theorem ok156 : FnOk Tryz.prog 156 3 ir156 [.tmp 0] := Yf Tryz.func156 Tryz.ntmps156 mixed
def ir157 : ACode := (sQ (Yr [oM 5 0,oO 6 (.bin .eql .ptr (tT 5) (.const (.pointer none)))] (.cond (tT 6) .ret .skip)) (Yr [oM 7 0,oO 8 (.nilck (tT 7)),Ya 9 162 8,Yk 10 9,oM 11 1,Yn 12 11,oO 13 (.conv .u64 (tT 12)),
 oO 14 (.bin .add .num (tT 10) (tT 13)),oO 15 (.nilck (tT 7)),Ya 16 162 15,Ys 1 16 14] (.block 0 (.loop (sQ (Yr [oM 17 1,Yn 18 17,oO 19 (.bin .gtr .num (tT 18) (kI 0))] (.cond (tT 19) .skip (.exit 0))) (.block 1 (sQ (.draw [Yd 0 (oM 20 0) 0 0,
 Yd 1 (oO 21 (.nilck (tT 20))) 1 0,Yd 2 (Ya 22 25 21) 3 0,Yd 3 (oM 23 0) 0 1,Yd 4 (oO 24 (.nilck (tT 23))) 8 1,Yd 5 (Ya 25 161 24) 24 1,Yd 6 (Yk 26 25) 56 1,Yd 7 (oO 27 (.slcA 136 (tT 22) (some (tT 26)) none)) 127 1,
 Yd 8 (oM 28 1) 0 0,Yd 9 (oO 29 (.copy 1 (tT 27) (tT 28))) 511 1,Yd 10 (oM 4 29) 1023 1]) (Yr [oM 30 1,oM 31 4,oO 32 (.slc 1 (tT 30) (some (tT 31)) none none),oM 1 32] (Yr [oM 33 0,oO 34 (.nilck (tT 33)),
 Ya 35 161 34,Yk 36 35,oM 37 4,oO 38 (.bin .add .num (tT 36) (tT 37)),oO 39 (.nilck (tT 33)),Ya 40 161 39,Ys 1 40 38] (Yr [oM 41 0,oO 42 (.nilck (tT 41)),Ya 43 161 42,Yk 44 43,oO 45 (.bin .eql .num (tT 44) (kI 136))] (.cond (tT 45) (sQ (.draw [Yd 0 (oM 46 0) 0 1,
 Yd 1 (oO 47 (.nilck (tT 46))) 1 1,Yd 2 (Ya 48 0 47) 3 1,Yd 3 (oM 49 0) 0 1,Yd 4 (oO 50 (.nilck (tT 49))) 8 1,Yd 5 (Ya 51 25 50) 24 1,Yd 6 (oO 52 (.slcA 136 (tT 51) none none)) 56 1,Yd 7 (Yc 53 183 [tT 48,
 tT 52]) 127 1]) (Yg [oM 54 0,oO 55 (.nilck (tT 54)),Ya 56 161 55,⟨none,.store 1 (tT 56) (kI 0),none⟩])) .skip)))))))))))
theorem ok157 : FnOk Tryz.prog 157 57 ir157 [] := Yf Tryz.func157 Tryz.ntmps157 mixed
def ir158 : ACode := (Yr [oO 2 (.alloc Y1)] (sQ (Yr [oM 7 0,oO 8 (.bin .eql .ptr (tT 7) (.const (.pointer none)))] (.cond (tT 8) (Yr [oO 9 (.build Y1 []),Ys 32 2 9] .ret) .skip)) (Yr [oM 10 0,oO 11 (.nilck (tT 10)),
 Ya 12 0 11,Yl 13 25 12,oO 3 (.alloc [(.int .u64 0),(.int .u64 0),(.int .u64 0),(.int .u64 0),(.int .u64 0),(.int .u64 0),(.int .u64 0),(.int .u64 0),(.int .u64 0),(.int .u64 0),(.int .u64 0),(.int .u64 0),
 (.int .u64 0),(.int .u64 0),(.int .u64 0),(.int .u64 0),(.int .u64 0),(.int .u64 0),(.int .u64 0),(.int .u64 0),(.int .u64 0),(.int .u64 0),(.int .u64 0),(.int .u64 0),(.int .u64 0)]),Ys 25 3 13] (Yr [oO 4 (.alloc [Yu,
 Yu,Yu,Yu,Yu,Yu,Yu,Yu,Yu,Yu,Yu,Yu,Yu,Yu,Yu,Yu,Yu,Yu,Yu,Yu,Yu,Yu,Yu,Yu,Yu,Yu,Yu,Yu,Yu,Yu,Yu,Yu,Yu,Yu,Yu,Yu,Yu,Yu,Yu,Yu,Yu,Yu,Yu,Yu,Yu,Yu,Yu,Yu,Yu,Yu,Yu,Yu,Yu,Yu,Yu,Yu,Yu,Yu,Yu,Yu,Yu,Yu,Yu,Yu,Yu,Yu,Yu,Yu,
 Yu,Yu,Yu,Yu,Yu,Yu,Yu,Yu,Yu,Yu,Yu,Yu,Yu,Yu,Yu,Yu,Yu,Yu,Yu,Yu,Yu,Yu,Yu,Yu,Yu,Yu,Yu,Yu,Yu,Yu,Yu,Yu,Yu,Yu,Yu,Yu,Yu,Yu,Yu,Yu,Yu,Yu,Yu,Yu,Yu,Yu,Yu,Yu,Yu,Yu,Yu,Yu,Yu,Yu,Yu,Yu,Yu,Yu,Yu,Yu,Yu,Yu,Yu,Yu,Yu,Yu,Yu,
 Yu])] (sQ (.draw [Yd 0 (oO 14 (.slcA 136 (tT 4) none none)) 0 0,Yd 1 (oM 15 0) 0 0,Yd 2 (oO 16 (.nilck (tT 15))) 2 0,Yd 3 (Ya 17 25 16) 6 0,Yd 4 (oM 18 0) 0 1,Yd 5 (oO 19 (.nilck (tT 18))) 16 1,Yd 6 (Ya 20 161 19) 48 1,
 Yd 7 (Yk 21 20) 112 1,Yd 8 (oO 22 (.slcA 136 (tT 17) none (some (tT 21)))) 254 1,Yd 9 (oO 23 (.copy 1 (tT 14) (tT 22))) 511 1]) (Yr [oM 24 0,oO 25 (.nilck (tT 24)),Ya 26 161 25,Yk 27 26,oO 28 (.iaddrA 136 1 (tT 4) (tT 27)),
 ⟨none,.store 1 (tT 28) (.const (.int .u8 6)),none⟩] (Yr [oO 29 (.iaddrA 136 1 (tT 4) (kI 135)),Yk 30 29,oO 31 (.bin .xor .num (tT 30) (.const (.int .u8 128))),oO 32 (.iaddrA 136 1 (tT 4) (kI 135)),Ys 1 32 31] (Yr [oO 33 (.slcA 136 (tT 4) none none),
 Yc 34 183 [tT 3,tT 33]] (Yr [oO 5 (.alloc Y1)] (sQ (Yr [oO 35 (.mov (kI 0))] (.block 0 (.loop (Yr [oO 36 (.bin .lss .num (tT 35) (kI 32))] (sQ (.cond (tT 36) .skip (.exit 0)) (sQ (.block 1 (Yr [oM 37 35,
 oM 6 37] (Yg [oM 38 6,oM 39 6,oO 40 (.bin .quo .num (tT 39) (kI 8)),oO 41 (.iaddrA 25 1 (tT 3) (tT 40)),Yk 42 41,oM 43 6,oO 44 (.bin .rem .num (tT 43) (kI 8)),oO 45 (.bin .mul .num (kI 8) (tT 44)),oO 46 (.bin .shr .num (tT 42) (tT 45)),
 oO 47 (.conv .u8 (tT 46)),oO 48 (.iaddrA 32 1 (tT 5) (tT 38)),Ys 1 48 47]))) (Yg [oO 49 (.bin .add .num (tT 35) (kI 1)),oM 35 49]))))))) (Yr [Yl 50 32 5,Ys 32 2 50] .ret)))))))))))
theorem ok158 : FnOk Tryz.prog 158 51 ir158 [.cell 2 true 32] := Yf Tryz.func158 Tryz.ntmps158 mixed
def ir159 : ACode := (Yr [Yb 4 0,Yb 6 2,Yb 7 3,oO 8 (.alloc [nS]),oO 9 (.mov kF)] (Yr [oO 10 (.mov (.const (.int .u8 2)))] (sQ (Yr [oM 17 1,Yn 18 17,oO 19 (.mov (kI 0))] (.block 0 (.loop (Yr [oO 20 (.bin .lss .num (tT 19) (tT 18))] (sQ (.cond (tT 20) .skip (.exit 0)) (sQ (.block 1 (Yr [Yi 21 6 17 19,
 Yl 22 6 21,oO 12 (.alloc [(.bool false),(.bool false),(.bool false),(.int .i64 0),nS,nS]),Ys 6 12 22] (.draw [Yd 0 (oM 23 10) 0 0,Yd 1 (Yl 24 6 12) 0 0,Yd 2 (Yl 25 6 4) 0 0,Yd 3 (Yl 26 1 7) 0 0,Yd 4 (Yl 27 1 7) 0 0,
 Yd 5 (Yl 28 1 6) 0 0,Yd 6 (Yc 29 74 [tT 27,tT 28]) 48 0,Yd 7 (Yc 30 184 [tT 24,tT 25,tT 26,tT 29]) 126 1,Yd 8 (oO 31 (.mn (tT 23) (tT 30))) 255 1,Yd 9 (oM 10 31) 511 1]))) (Yg [oO 32 (.bin .add .num (tT 19) (kI 1)),
 oM 19 32]))))))) (sQ (Yr [oM 33 10,oO 34 (.bin .eql .num (tT 33) (.const (.int .u8 2)))] (.cond (tT 34) (Yr [Yl 35 1 7,Ys 1 8 35,oO 9 (.mov kT)] .ret) .skip)) (sQ (Yr [oM 36 10,oO 37 (.bin .eql .num (tT 36) (.const Yu))] (.cond (tT 37) (Yr [oO 38 (.build [nS] []),
 Ys 1 8 38,oO 9 (.mov kF)] .ret) .skip)) (Yr [Yl 40 1 6,Yc 41 185 [tT 40],oM 39 41,Yx 42 39 0,Yx 43 39 1,oM 13 42,oM 14 43] (sQ (Yr [oM 44 14,oO 45 (.una .not (tT 44))] (.cond (tT 45) (Yr [oO 46 (.build [nS] []),
 Ys 1 8 46,oO 9 (.mov kF)] .ret) .skip)) (sQ (sQ (.draw [Yd 0 (Yl 48 6 4) 0 0,Yd 1 (oM 49 1) 0 0,Yd 2 (Yl 50 1 6) 0 0,Yd 3 (oM 51 13) 0 0,Yd 4 (Yc 52 34 [tT 50,tT 51]) 12 0,Yd 5 (Yl 53 1 7) 0 0,Yd 6 (Yc 54 159 [tT 48,
 tT 49,tT 52,tT 53]) 63 1,Yd 7 (oM 47 54) 127 1,Yd 8 (Yx 55 47 0) 255 1,Yd 9 (Yx 56 47 1) 255 0,Yd 10 (oO 15 (.alloc [nS])) 0 0,Yd 11 (Ys 1 15 55) 1535 1,Yd 12 (oM 16 56) 4095 1]) (Yr [oM 57 16] (.cond (tT 57) (Yr [Yl 58 1 15,
 Ys 1 8 58,oO 9 (.mov kT)] .ret) .skip))) (sQ (.draw [Yd 0 (Yl 59 6 4) 0 0,Yd 1 (oM 60 1) 0 0,Yd 2 (Yl 61 1 6) 0 0,Yd 3 (oM 62 13) 0 0,Yd 4 (Yc 63 34 [tT 61,tT 62]) 12 0,Yd 5 (Yl 64 1 7) 0 0,Yd 6 (oM 65 13) 0 0,
 Yd 7 (Yc 66 15 [tT 64,tT 65]) 124 0,Yd 8 (Yc 67 159 [tT 59,tT 60,tT 63,tT 66]) 255 1,Yd 9 (Yx 68 67 0) 511 1,Yd 10 (Yx 69 67 1) 511 1,Yd 11 (Ys 1 8 68) 2047 1,Yd 12 (oM 9 69) 4095 1]) .ret)))))))))
theorem ok159 : FnOk Tryz.prog 159 70 ir159 [.cell 8 true 1, .tmp 9] := Yf Tryz.func159 Tryz.ntmps159 mixed
def ir160 : ACode := (Yr [Yb 2 0,oO 4 (.alloc [nS])] (Yr [oO 5 (.alloc [nS])] (sQ (Yr [oM 10 1,Yn 11 10,oO 12 (.mov (kI 0))] (.block 0 (.loop (Yr [oO 13 (.bin .lss .num (tT 12) (tT 11))] (sQ (.cond (tT 13) .skip (.exit 0)) (sQ (.block 1 (Yr [Yi 14 6 10 12,
 Yl 15 6 14,oO 7 (.alloc [(.bool false),(.bool false),(.bool false),(.int .i64 0),nS,nS]),Ys 6 7 15] (sQ (.draw [Yd 0 (Ya 16 4 7) 0 0,Yd 1 (Yk 17 16) 1 0,Yd 2 (Yc 18 77 [tT 17]) 3 0,Yd 3 (Ya 19 5 7) 0 0,
 Yd 4 (Yk 20 19) 8 0,Yd 5 (Yc 21 77 [tT 20]) 31 1,Yd 6 (Yc 22 74 [tT 18,tT 21]) 63 1,Yd 7 (oO 8 (.alloc [nS])) 0 0,Yd 8 (Ys 1 8 22) 255 1]) (Yr [Yl 23 1 5,Yl 24 1 8,Yc 25 74 [tT 23,tT 24],Ys 1 5 25] (Yr [Yl 26 1 8,
 Yc 27 85 [tT 26]] (.block 2 (.range (tT 27) [28] [(9,(tT 28))] (.block 3 (Yr [Ya 29 0 7,Yk 30 29] (.cond (tT 30) (.draw [Yd 0 (Yl 31 1 5) 0 0,Yd 1 (Ya 32 1 2) 0 0,Yd 2 (Yk 33 32) 2 0,Yd 3 (oM 34 9) 0 0,
 Yd 4 (Yc 35 139 [tT 33,tT 34]) 14 0,Yd 5 (Yc 36 74 [tT 31,tT 35]) 31 1,Yd 6 (Ys 1 5 36) 63 1]) .skip)))))))))) (Yg [oO 37 (.bin .add .num (tT 12) (kI 1)),oM 12 37]))))))) (Yr [Yl 38 1 5,Ys 1 4 38] .ret))))
theorem ok160 : FnOk Tryz.prog 160 39 ir160 [.cell 4 true 1] := Yf Tryz.func160 Tryz.ntmps160 mixed
def ir161 : ACode := (Yr [oO 4 (.mov kF)] (Yr [oM 5 0,oM 6 1,Yc 7 186 [tT 5,tT 6],oO 8 (.bin .geq .num (tT 7) (kI 0)),oM 4 8] .ret))
theorem ok161 : FnOk Tryz.prog 161 9 ir161 [.tmp 4] := Yf Tryz.func161 Tryz.ntmps161 mixed
def ir162 : ACode := (Yr [Yb 2 0,oO 3 (.mov kF)] (Yr [Yk 4 1,Yl 5 2 2,oO 6 (.call (tT 4) [tT 5]),oO 7 (.una .not (tT 6)),oM 3 7] .ret))
theorem ok162 : FnOk Tryz.prog 162 8 ir162 [.tmp 3] := Yf Tryz.func162 Tryz.ntmps162 mixed
def ir163 : ACode := (Yr [Yb 2 0,oO 3 (.mov kF)] (Yr [Yk 4 1,Yl 5 2 2,oO 6 (.call (tT 4) [tT 5]),oO 7 (.una .not (tT 6)),oM 3 7] .ret))
theorem ok163 : FnOk Tryz.prog 163 8 ir163 [.tmp 3] := Yf Tryz.func163 Tryz.ntmps163 mixed
def ir164 : ACode := (Yr [oO 4 (.mov (kI 0))] (sQ (Yr [oM 6 0,Yn 7 6,oO 8 (.mov (kI 0))] (.block 0 (.loop (Yr [oO 9 (.bin .lss .num (tT 8) (tT 7))] (sQ (.cond (tT 9) .skip (.exit 0)) (sQ (.block 1 (Yr [oM 10 8,
 oM 5 10] (Yr [oM 11 1,oM 12 0,oM 13 5,Yi 14 5 12 13,Yl 15 5 14,oO 16 (.call (tT 11) [tT 15])] (.cond (tT 16) (Yr [oM 17 5,oM 4 17] .ret) .skip)))) (Yg [oO 18 (.bin .add .num (tT 8) (kI 1)),oM 8 18]))))))) (Yr [oO 4 (.mov (.const (.int .i64 (-1))))] .ret)))
theorem ok164 : FnOk Tryz.prog 164 19 ir164 [.tmp 4] := Yf Tryz.func164 Tryz.ntmps164 mixed
def ir165 : ACode := (Yr [oO 4 (.alloc [nS])] (sQ (Yr [oM 5 0,oM 6 1,Yc 7 149 [tT 5,tT 6],oO 8 (.una .not (tT 7))] (.cond (tT 8) (Yr [oO 9 (.build [nS] []),Ys 1 4 9] .ret) .skip)) (Yr [oM 10 0,oO 11 (.nilck (tT 10)),
 Ya 12 2 11,Yk 13 12,oM 14 1,Yi 15 1 13 14,Yl 16 1 15,Ys 1 4 16] .ret)))
theorem ok165 : FnOk Tryz.prog 165 17 ir165 [.cell 4 true 1] := Yf Tryz.func165 Tryz.ntmps165 mixed
def ir167 : ACode := (Yr [Yb 2 0,Yb 3 1,oO 4 (.mov (kI 0))] (sQ (Yr [Ya 6 0 2,Yl 7 1 6,Ya 8 0 3,Yl 9 1 8,Yc 10 188 [tT 7,tT 9],oM 5 10] (Yr [oM 11 5,oO 12 (.bin .neq .num (tT 11) (kI 0))] (.cond (tT 12) (Yr [oM 13 5,
 oM 4 13] .ret) .skip))) (Yr [Ya 14 1 2,Yl 15 1 14,Ya 16 1 3,Yl 17 1 16,Yc 18 188 [tT 15,tT 17],oM 4 18] .ret)))
theorem ok167 : FnOk Tryz.prog 167 19 ir167 [.tmp 4] := Yf Tryz.func167 Tryz.ntmps167 mixed
def ir168 : ACode := (Yr [oO 4 (.mov (.const nS))] (sQ (Yr [oM 8 0,Yn 9 8,oO 10 (.bin .lss .num (tT 9) (kI 2))] (.cond (tT 10) (Yr [oM 11 0,oM 4 11] .ret) .skip)) (sQ (Yr [oO 5 (.mov (kI 1))] (.block 0 (.loop (sQ (Yr [oM 12 5,
 oM 13 0,Yn 14 13,oO 15 (.bin .lss .num (tT 12) (tT 14))] (.cond (tT 15) .skip (.exit 0))) (sQ (.block 1 (sQ (.draw [Yd 0 (oM 18 1) 0 0,Yd 1 (oM 19 0) 0 0,Yd 2 (oM 20 5) 0 0,Yd 3 (Yi 21 2 19 20) 6 0,Yd 4 (Yl 22 2 21) 14 0,
 Yd 5 (oM 23 0) 0 0,Yd 6 (oM 24 5) 0 0,Yd 7 (oO 25 (.bin .sub .num (tT 24) (kI 1))) 64 0,Yd 8 (Yi 26 2 23 25) 224 0,Yd 9 (Yl 27 2 26) 480 0,Yd 10 (oO 28 (.call (tT 18) [tT 22,tT 27])) 1023 1]) (.cond (tT 28) (Yr [oM 29 0,
 oM 30 5,oO 31 (.slc 2 (tT 29) (some (tT 30)) none none),oM 6 31] (sQ (Yr [oO 7 (.mov (kI 1))] (.block 2 (.loop (sQ (Yr [oM 32 7,oM 33 6,Yn 34 33,oO 35 (.bin .lss .num (tT 32) (tT 34))] (.cond (tT 35) .skip (.exit 2))) (sQ (.block 3 (sQ (.draw [Yd 0 (oM 38 1) 0 0,
 Yd 1 (oM 39 6) 0 0,Yd 2 (oM 40 7) 0 0,Yd 3 (Yi 41 2 39 40) 6 0,Yd 4 (Yl 42 2 41) 14 0,Yd 5 (oM 43 6) 0 0,Yd 6 (oM 44 7) 0 0,Yd 7 (oO 45 (.bin .sub .num (tT 44) (kI 1))) 64 0,Yd 8 (Yi 46 2 43 45) 224 0,
 Yd 9 (Yl 47 2 46) 480 0,Yd 10 (oO 48 (.call (tT 38) [tT 42,tT 47])) 1023 1,Yd 11 (oO 49 (.una .not (tT 48))) 2047 1]) (.cond (tT 49) (Yr [oM 50 0,oM 51 5,oM 52 6,oM 53 7,Yi 54 2 52 53,Yl 55 2 54,Yi 56 2 50 51,
 Ys 2 56 55] (Yg [oM 57 5,oO 58 (.bin .add .num (tT 57) (kI 1)),oM 5 58])) .skip))) (Yg [oM 36 7,oO 37 (.bin .add .num (tT 36) (kI 1)),oM 7 37])))))) (Yr [oM 59 0,oM 60 5,oO 61 (.slc 2 (tT 59) (some (tT 60)) none none),
 ⟨none,.clear [nS,nS] (tT 61),none⟩] (Yr [oM 62 0,oM 63 5,oO 64 (.slc 2 (tT 62) none (some (tT 63)) none),oM 4 64] .ret)))) .skip))) (Yg [oM 16 5,oO 17 (.bin .add .num (tT 16) (kI 1)),oM 5 17])))))) (Yr [oM 65 0,
 oM 4 65] .ret))))
theorem ok168 : FnOk Tryz.prog 168 66 ir168 [.tmp 4] := Yf Tryz.func168 Tryz.ntmps168 mixed
def ir169 : ACode := (Yr [Yb 2 0,Yb 3 1,oO 4 (.mov kF)] (Yr [Ya 5 0 2,Yl 6 1 5,Ya 7 0 3,Yl 8 1 7,Yc 9 87 [tT 6,tT 8],oM 10 9,oT 10 11 (.faddr 1 (tT 2)),oT 10 12 (.load true 1 (tT 11)),oT 10 13 (.faddr 1 (tT 3)),
 oT 10 14 (.load true 1 (tT 13)),oT 10 15 (kC 87 [tT 12,tT 14]),oO 16 (.pick (tT 10) (tT 15) kF),oM 4 16] .ret))
theorem ok169 : FnOk Tryz.prog 169 17 ir169 [.tmp 4] := Yf Tryz.func169 Tryz.ntmps169 mixed
def ir170 : ACode := (Yr [Yb 2 0,Yb 3 1,oO 4 (.mov kF)] (Yr [Yl 5 2 2,Yc 6 76 [tT 5],oM 7 6,oF 7 8 (.faddr 0 (tT 3)),oF 7 9 (.load true 1 (tT 8)),oF 7 10 (.faddr 0 (tT 2)),oF 7 11 (.load true 1 (tT 10)),
 oF 7 12 (kC 75 [tT 9,tT 11]),oF 7 13 (.mov (tT 12)),oT 13 14 (.faddr 1 (tT 3)),oT 13 15 (.load true 1 (tT 14)),oT 13 16 (.faddr 1 (tT 2)),oT 13 17 (.load true 1 (tT 16)),oT 13 18 (kC 75 [tT 15,tT 17]),
 oF 7 19 (.pick (tT 13) (tT 18) kF),oO 20 (.pick (tT 7) kT (tT 19)),oM 4 20] .ret))
theorem ok170 : FnOk Tryz.prog 170 21 ir170 [.tmp 4] := Yf Tryz.func170 Tryz.ntmps170 mixed
set_option maxRecDepth 100000
def ir180 : ACode := (Yr [oO 2 (.mov (kI 0))] (sQ (Yr [oM 3 0,oO 4 (.bin .geq .num (tT 3) (.const (.int .u64 4294967296)))] (.cond (tT 4) (Yr [oM 5 0,oO 6 (.bin .shr .num (tT 5) (.const (.int .u64 32))),
 oM 0 6] (Yg [oO 2 (.mov (kI 32))])) .skip)) (sQ (Yr [oM 7 0,oO 8 (.bin .geq .num (tT 7) (.const (.int .u64 65536)))] (.cond (tT 8) (Yr [oM 9 0,oO 10 (.bin .shr .num (tT 9) (.const (.int .u64 16))),oM 0 10] (Yg [oM 11 2,
 oO 12 (.bin .add .num (tT 11) (kI 16)),oM 2 12])) .skip)) (sQ (Yr [oM 13 0,oO 14 (.bin .geq .num (tT 13) (.const (.int .u64 256)))] (.cond (tT 14) (Yr [oM 15 0,oO 16 (.bin .shr .num (tT 15) (.const (.int .u64 8))),
 oM 0 16] (Yg [oM 17 2,oO 18 (.bin .add .num (tT 17) (kI 8)),oM 2 18])) .skip)) (Yr [oM 19 2,oM 20 0,oO 21 (.conv .u8 (tT 20)),⟨(some 22),.indexS (.const (.string ⟨#[0,1,2,2,3,3,3,3,4,4,4,4,4,4,4,4,5,5,
 5,5,5,5,5,5,5,5,5,5,5,5,5,5,6,6,6,6,6,6,6,6,6,6,6,6,6,6,6,6,6,6,6,6,6,6,6,6,6,6,6,6,6,6,6,6,7,7,7,7,7,7,7,7,7,7,7,7,7,7,7,7,7,7,7,7,7,7,7,7,7,7,7,7,7,7,7,7,7,7,7,7,7,7,7,7,7,7,7,7,7,7,7,7,7,7,7,7,7,7,7,
 7,7,7,7,7,7,7,7,7,8,8,8,8,8,8,8,8,8,8,8,8,8,8,8,8,8,8,8,8,8,8,8,8,8,8,8,8,8,8,8,8,8,8,8,8,8,8,8,8,8,8,8,8,8,8,8,8,8,8,8,8,8,8,8,8,8,8,8,8,8,8,8,8,8,8,8,8,8,8,8,8,8,8,8,8,8,8,8,8,8,8,8,8,8,8,8,8,8,8,8,8,
 8,8,8,8,8,8,8,8,8,8,8,8,8,8,8,8,8,8,8,8,8,8,8,8,8,8,8,8,8,8,8,8,8,8,8,8]⟩)) (tT 21),none⟩,oO 23 (.conv .i64 (tT 22)),oO 24 (.bin .add .num (tT 19) (tT 23)),oM 2 24] .ret)))))
theorem ok180 : FnOk Tryz.prog 180 25 ir180 [.tmp 2] := Yf Tryz.func180 Tryz.ntmps180 mixed
def ir181 : ACode := (Yr [Yb 3 1,oO 4 (.mov (kI 0))] (sQ (Yr [oM 6 0,Yn 7 6,oO 8 (.mov (kI 0))] (.block 0 (.loop (Yr [oO 9 (.bin .lss .num (tT 8) (tT 7))] (sQ (.cond (tT 9) .skip (.exit 0)) (sQ (.block 1 (Yr [oM 10 8,
 oM 5 10] (sQ (.draw [Yd 0 (Yl 11 2 3) 0 0,Yd 1 (oM 12 0) 0 0,Yd 2 (oM 13 5) 0 0,Yd 3 (Yi 14 2 12 13) 6 0,Yd 4 (Yl 15 2 14) 14 0,Yd 5 (oO 16 (.bin .eql (.cells [0,0]) (tT 11) (tT 15))) 31 1]) (.cond (tT 16) (Yr [oM 17 5,
 oM 4 17] .ret) .skip)))) (Yg [oO 18 (.bin .add .num (tT 8) (kI 1)),oM 8 18]))))))) (Yr [oO 4 (.mov (.const (.int .i64 (-1))))] .ret)))
theorem ok181 : FnOk Tryz.prog 181 19 ir181 [.tmp 4] := Yf Tryz.func181 Tryz.ntmps181 mixed
def ir182 : ACode := (Yr [oO 2 (.mov (.const nS))] (sQ (Yr [oM 3 0,oO 4 (.isnil false (tT 3))] (.cond (tT 4) (Yr [oO 2 (.mov (.const nS))] .ret) .skip)) (Yr [oO 5 (.bslice [(.int .i64 0),(.int .i64 0)] 0 []),
 oM 6 0,oO 7 (.append [(.int .i64 0),(.int .i64 0)] 16 (tT 5) (tT 6)),oM 2 7] .ret)))
theorem ok182 : FnOk Tryz.prog 182 8 ir182 [.tmp 2] := Yf Tryz.func182 Tryz.ntmps182 mixed
def ir183 : ACode := (sQ (Yr [oO 7 (.mov (kI 0))] (.block 0 (.loop (Yr [oO 8 (.bin .lss .num (tT 7) (kI 17))] (sQ (.cond (tT 8) .skip (.exit 0)) (sQ (.block 1 (Yr [oM 9 7,oM 4 9] (Yr [oO 5 (.mov (.const (.int .u64 0)))] (sQ (Yr [oO 6 (.mov (kI 7))] (.block 2 (.loop (sQ (Yr [oM 10 6,
 oO 11 (.bin .geq .num (tT 10) (kI 0))] (.cond (tT 11) .skip (.exit 2))) (sQ (.block 3 (Yg [oM 14 5,oO 15 (.bin .shl .num (tT 14) (.const (.int .u64 8))),oM 16 1,oM 17 4,oO 18 (.bin .mul .num (kI 8) (tT 17)),
 oM 19 6,oO 20 (.bin .add .num (tT 18) (tT 19)),Yi 21 1 16 20,Yk 22 21,oO 23 (.conv .u64 (tT 22)),oO 24 (.bin .or .num (tT 15) (tT 23)),oM 5 24])) (Yg [oM 12 6,oO 13 (.bin .sub .num (tT 12) (kI 1)),oM 6 13])))))) (.draw [Yd 0 (oM 25 0) 0 1,
 Yd 1 (oM 26 4) 0 1,Yd 2 (oO 27 (.nilck (tT 25))) 1 1,Yd 3 (oO 28 (.iaddrA 25 1 (tT 27) (tT 26))) 7 1,Yd 4 (Yk 29 28) 15 1,Yd 5 (oM 30 5) 0 0,Yd 6 (oO 31 (.bin .xor .num (tT 29) (tT 30))) 63 1,Yd 7 (oO 32 (.nilck (tT 25))) 1 0,
 Yd 8 (oO 33 (.iaddrA 25 1 (tT 32) (tT 26))) 255 1,Yd 9 (Ys 1 33 31) 511 1]))))) (Yg [oO 34 (.bin .add .num (tT 7) (kI 1)),oM 7 34]))))))) (Yg [oM 35 0,Yc 36 194 [tT 35]]))
theorem ok183 : FnOk Tryz.prog 183 37 ir183 [] := Yf Tryz.func183 Tryz.ntmps183 mixed
def ir184 : ACode := (Yr [Yb 4 0,Yb 5 1,Yb 6 2,Yb 7 3,oO 8 (.mov (.const Yu))] (Yr [Yl 11 6 4,Yl 12 6 5,Yl 13 1 6,Yl 14 1 7,Yc 15 195 [tT 11,tT 12,tT 13,tT 14],oM 10 15,Yx 16 10 0,Yx 17 10 1,Ys 1 6 16,
 Ys 1 7 17] (Yr [Ya 18 5 4,Yk 19 18,Yl 20 1 6,Yl 21 1 7,Yc 22 196 [tT 19,tT 20,tT 21],oO 23 (.bin .sub .num (.const (.int .u8 2)) (tT 22)),oM 9 23] (sQ (Yr [Ya 24 2 4,Yk 25 24] (.cond (tT 25) (Yg [oM 26 9,
 Ya 27 4 4,Yk 28 27,Yl 29 1 6,Yl 30 1 7,Yc 31 196 [tT 28,tT 29,tT 30],oO 32 (.mn (tT 26) (tT 31)),oM 9 32]) .skip)) (Yr [oM 33 9,oM 8 33] .ret)))))
theorem ok184 : FnOk Tryz.prog 184 34 ir184 [.tmp 8] := Yf Tryz.func184 Tryz.ntmps184 mixed
def ir185 : ACode := (Yr [Yb 1 0,oO 2 (.mov (kI 0)),oO 3 (.mov kF)] (sQ (Yr [Ya 6 0 1,Yk 7 6,Yn 8 7,oO 9 (.mov (kI 0))] (.block 0 (.loop (Yr [oO 10 (.bin .lss .num (tT 9) (tT 8))] (sQ (.cond (tT 10) .skip (.exit 0)) (sQ (.block 1 (Yr [oM 11 9,
 Yi 12 1 7 9,Yk 13 12,oM 4 11,oM 5 13] (Yr [oM 14 5,oO 15 (.bin .neq .num (tT 14) (.const (.int .u64 0)))] (.cond (tT 15) (Yr [oM 16 4,oO 17 (.bin .mul .num (kI 64) (tT 16)),oM 18 5,Yc 19 129 [tT 18],oO 20 (.bin .add .num (tT 17) (tT 19)),
 oM 2 20,oO 3 (.mov kT)] .ret) .skip)))) (Yg [oO 21 (.bin .add .num (tT 9) (kI 1)),oM 9 21]))))))) (Yr [oO 2 (.mov (kI 0)),oO 3 (.mov kF)] .ret)))
theorem ok185 : FnOk Tryz.prog 185 22 ir185 [.tmp 2, .tmp 3] := Yf Tryz.func185 Tryz.ntmps185 mixed
def ir186 : ACode := (Yr [oO 4 (.mov (kI 0))] (sQ (Yr [oM 6 0,Yn 7 6,oO 8 (.mov (kI 0))] (.block 0 (.loop (Yr [oO 9 (.bin .lss .num (tT 8) (tT 7))] (sQ (.cond (tT 9) .skip (.exit 0)) (sQ (.block 1 (Yr [oM 10 8,
 oM 5 10] (Yr [oM 11 1,oM 12 0,oM 13 5,Yi 14 2 12 13,Yl 15 2 14,oO 16 (.call (tT 11) [tT 15])] (.cond (tT 16) (Yr [oM 17 5,oM 4 17] .ret) .skip)))) (Yg [oO 18 (.bin .add .num (tT 8) (kI 1)),oM 8 18]))))))) (Yr [oO 4 (.mov (.const (.int .i64 (-1))))] .ret)))
theorem ok186 : FnOk Tryz.prog 186 19 ir186 [.tmp 4] := Yf Tryz.func186 Tryz.ntmps186 mixed
def ir188 : ACode := (Yr [Yb 2 0,Yb 3 1,oO 4 (.mov (kI 0))] (sQ (Yr [Ya 8 0 2,Yk 9 8,Yn 10 9,Ya 11 0 3,Yk 12 11,Yn 13 12,oO 14 (.mx (tT 10) (tT 13)),oO 15 (.mov (kI 0))] (.block 0 (.loop (Yr [oO 16 (.bin .lss .num (tT 15) (tT 14))] (sQ (.cond (tT 16) .skip (.exit 0)) (sQ (.block 1 (Yr [oM 17 15,
 oM 5 17] (sQ (.draw [Yd 0 (Yl 18 1 2) 0 0,Yd 1 (oM 19 5) 0 0,Yd 2 (Yc 20 83 [tT 18,tT 19]) 3 0,Yd 3 (Yl 21 1 3) 0 0,Yd 4 (oM 22 5) 0 0,Yd 5 (Yc 23 83 [tT 21,tT 22]) 31 1,Yd 6 (oO 24 (.bin .xor .num (tT 20) (tT 23))) 63 1,
 Yd 7 (oM 6 24) 127 1]) (sQ (Yr [oM 25 6,oO 26 (.bin .eql .num (tT 25) (.const (.int .u64 0)))] (.cond (tT 26) (.exit 1) .skip)) (Yr [oM 27 5,oO 28 (.bin .mul .num (kI 64) (tT 27)),oM 29 6,Yc 30 129 [tT 29],
 oO 31 (.bin .add .num (tT 28) (tT 30)),oM 7 31] (sQ (sQ (.draw [Yd 0 (Yl 32 1 2) 0 0,Yd 1 (oM 33 7) 0 0,Yd 2 (Yc 34 35 [tT 32,tT 33]) 3 0,Yd 3 (Yl 35 1 3) 0 0,Yd 4 (oM 36 7) 0 0,Yd 5 (Yc 37 35 [tT 35,tT 36]) 31 1,
 Yd 6 (oO 38 (.bin .eql .bool (tT 34) (tT 37))) 63 1]) (.cond (tT 38) (Yr [oO 4 (.mov (kI 0))] .ret) .skip)) (sQ (Yr [Yl 39 1 2,oM 40 7,Yc 41 35 [tT 39,tT 40],oM 42 41,oT 42 43 (.load true 1 (tT 3)),oT 42 44 (.mov (tT 7)),
 oT 42 45 (kC 205 [tT 43,tT 44]),oO 46 (.pick (tT 42) (tT 45) kF),oM 47 46,oF 47 48 (.load true 1 (tT 3)),oF 47 49 (.mov (tT 7)),oF 47 50 (kC 35 [tT 48,tT 49]),oF 47 51 (.mov (tT 50)),oT 51 52 (.load true 1 (tT 2)),
 oT 51 53 (.mov (tT 7)),oT 51 54 (kC 205 [tT 52,tT 53]),oT 51 55 (.una .not (tT 54)),oF 47 56 (.pick (tT 51) (tT 55) kF),oO 57 (.pick (tT 47) kT (tT 56))] (.cond (tT 57) (Yr [oO 4 (.mov (.const (.int .i64 (-1))))] .ret) .skip)) (Yr [oO 4 (.mov (kI 1))] .ret)))))))) (Yg [oO 58 (.bin .add .num (tT 15) (kI 1)),
 oM 15 58]))))))) (Yr [oO 4 (.mov (kI 0))] .ret)))
theorem ok188 : FnOk Tryz.prog 188 59 ir188 [.tmp 4] := Yf Tryz.func188 Tryz.ntmps188 mixed
def ir194 : ACode := (Yr [oO 12 (.load true 24 (.global 1)),oO 13 (.mov (kI 0))] (.block 0 (.loop (Yr [oO 14 (.bin .lss .num (tT 13) (kI 24))] (sQ (.cond (tT 14) .skip (.exit 0)) (sQ (.block 1 (Yr [oO 15 (.indexA false 24 1 (tT 12) (tT 13)),
 oM 3 15] (Yr [oO 4 (.alloc [(.int .u64 0),(.int .u64 0),(.int .u64 0),(.int .u64 0),(.int .u64 0)])] (sQ (Yr [oO 16 (.mov (kI 0))] (.block 2 (.loop (Yr [oO 17 (.bin .lss .num (tT 16) (kI 5))] (sQ (.cond (tT 17) .skip (.exit 2)) (sQ (.block 3 (Yr [oM 18 16,
 oM 5 18] (.draw [Yd 0 (oM 19 5) 0 0,Yd 1 (oM 20 0) 0 0,Yd 2 (oM 21 5) 0 0,Yd 3 (oO 22 (.nilck (tT 20))) 2 0,Yd 4 (oO 23 (.iaddrA 25 1 (tT 22) (tT 21))) 14 0,Yd 5 (Yk 24 23) 30 0,Yd 6 (oM 25 0) 0 0,Yd 7 (oM 26 5) 0 0,
 Yd 8 (oO 27 (.bin .add .num (tT 26) (kI 5))) 128 0,Yd 9 (oO 28 (.nilck (tT 25))) 64 0,Yd 10 (oO 29 (.iaddrA 25 1 (tT 28) (tT 27))) 960 0,Yd 11 (Yk 30 29) 1984 0,Yd 12 (oO 31 (.bin .xor .num (tT 24) (tT 30))) 4094 0,
 Yd 13 (oM 32 0) 0 0,Yd 14 (oM 33 5) 0 0,Yd 15 (oO 34 (.bin .add .num (tT 33) (kI 10))) 16384 0,Yd 16 (oO 35 (.nilck (tT 32))) 8192 0,Yd 17 (oO 36 (.iaddrA 25 1 (tT 35) (tT 34))) 122880 0,Yd 18 (Yk 37 36) 253952 0,
 Yd 19 (oO 38 (.bin .xor .num (tT 31) (tT 37))) 524286 0,Yd 20 (oM 39 0) 0 0,Yd 21 (oM 40 5) 0 0,Yd 22 (oO 41 (.bin .add .num (tT 40) (kI 15))) 2097152 0,Yd 23 (oO 42 (.nilck (tT 39))) 1048576 0,Yd 24 (oO 43 (.iaddrA 25 1 (tT 42) (tT 41))) 15728640 0,
 Yd 25 (Yk 44 43) 32505856 0,Yd 26 (oO 45 (.bin .xor .num (tT 38) (tT 44))) 67108862 0,Yd 27 (oM 46 0) 0 0,Yd 28 (oM 47 5) 0 0,Yd 29 (oO 48 (.bin .add .num (tT 47) (kI 20))) 268435456 0,Yd 30 (oO 49 (.nilck (tT 46))) 134217728 0,
 Yd 31 (oO 50 (.iaddrA 25 1 (tT 49) (tT 48))) 2013265920 0,Yd 32 (Yk 51 50) 4160749568 0,Yd 33 (oO 52 (.bin .xor .num (tT 45) (tT 51))) 8589934590 1,Yd 34 (oO 53 (.iaddrA 5 1 (tT 4) (tT 19))) 17179869183 1,
 Yd 35 (Ys 1 53 52) 34359738367 1]))) (Yg [oO 54 (.bin .add .num (tT 16) (kI 1)),oM 16 54]))))))) (Yr [oO 6 (.alloc [(.int .u64 0),(.int .u64 0),(.int .u64 0),(.int .u64 0),(.int .u64 0),(.int .u64 0),(.int .u64 0),
 (.int .u64 0),(.int .u64 0),(.int .u64 0),(.int .u64 0),(.int .u64 0),(.int .u64 0),(.int .u64 0),(.int .u64 0),(.int .u64 0),(.int .u64 0),(.int .u64 0),(.int .u64 0),(.int .u64 0),(.int .u64 0),(.int .u64 0),
 (.int .u64 0),(.int .u64 0),(.int .u64 0)])] (sQ (Yr [oO 55 (.mov (kI 0))] (.block 4 (.loop (Yr [oO 56 (.bin .lss .num (tT 55) (kI 5))] (sQ (.cond (tT 56) .skip (.exit 4)) (sQ (.block 5 (Yr [oM 57 55,oM 7 57] (sQ (.draw [Yd 0 (oM 58 7) 0 0,
 Yd 1 (oO 59 (.bin .add .num (tT 58) (kI 4))) 1 0,Yd 2 (oO 60 (.bin .rem .num (tT 59) (kI 5))) 3 0,Yd 3 (oO 61 (.iaddrA 5 1 (tT 4) (tT 60))) 7 0,Yd 4 (Yk 62 61) 15 0,Yd 5 (oM 63 7) 0 0,Yd 6 (oO 64 (.bin .add .num (tT 63) (kI 1))) 32 0,
 Yd 7 (oO 65 (.bin .rem .num (tT 64) (kI 5))) 96 0,Yd 8 (oO 66 (.iaddrA 5 1 (tT 4) (tT 65))) 224 0,Yd 9 (Yk 67 66) 480 0,Yd 10 (Yc 68 207 [tT 67,kI 1]) 992 0,Yd 11 (oO 69 (.bin .xor .num (tT 62) (tT 68))) 2047 1,
 Yd 12 (oM 8 69) 4095 1]) (Yr [oO 70 (.mov (kI 0))] (.block 6 (.loop (Yr [oO 71 (.bin .lss .num (tT 70) (kI 5))] (sQ (.cond (tT 71) .skip (.exit 6)) (sQ (.block 7 (Yr [oM 72 70,oM 9 72] (.draw [Yd 0 (oM 73 9) 0 0,
 Yd 1 (oM 74 7) 0 0,Yd 2 (oO 75 (.bin .mul .num (kI 2) (tT 74))) 2 0,Yd 3 (oM 76 9) 0 0,Yd 4 (oO 77 (.bin .mul .num (kI 3) (tT 76))) 8 0,Yd 5 (oO 78 (.bin .add .num (tT 75) (tT 77))) 30 0,Yd 6 (oO 79 (.bin .rem .num (tT 78) (kI 5))) 62 0,
 Yd 7 (oO 80 (.bin .mul .num (kI 5) (tT 79))) 126 0,Yd 8 (oO 81 (.bin .add .num (tT 73) (tT 80))) 255 0,Yd 9 (oM 82 0) 0 0,Yd 10 (oM 83 7) 0 0,Yd 11 (oM 84 9) 0 0,Yd 12 (oO 85 (.bin .mul .num (kI 5) (tT 84))) 2048 0,
 Yd 13 (oO 86 (.bin .add .num (tT 83) (tT 85))) 7168 0,Yd 14 (oO 87 (.nilck (tT 82))) 512 0,Yd 15 (oO 88 (.iaddrA 25 1 (tT 87) (tT 86))) 32256 0,Yd 16 (Yk 89 88) 65024 0,Yd 17 (oM 90 8) 0 0,Yd 18 (oO 91 (.bin .xor .num (tT 89) (tT 90))) 261632 0,
 Yd 19 (oM 92 7) 0 0,Yd 20 (oM 93 9) 0 0,Yd 21 (oO 94 (.bin .mul .num (kI 5) (tT 93))) 1048576 0,Yd 22 (oO 95 (.bin .add .num (tT 92) (tT 94))) 3670016 0,Yd 23 (oO 96 (.iaddrA 25 1 (.global 2) (tT 95))) 7864320 0,
 Yd 24 (Yk 97 96) 16252928 0,Yd 25 (Yc 98 207 [tT 91,tT 97]) 33553920 1,Yd 26 (oO 99 (.iaddrA 25 1 (tT 6) (tT 81))) 67108863 1,Yd 27 (Ys 1 99 98) 134217727 1]))) (Yg [oO 100 (.bin .add .num (tT 70) (kI 1)),
 oM 70 100])))))))))) (Yg [oO 101 (.bin .add .num (tT 55) (kI 1)),oM 55 101]))))))) (sQ (Yr [oO 10 (.mov (kI 0))] (.block 8 (.loop (sQ (Yr [oM 102 10,oO 103 (.bin .lss .num (tT 102) (kI 25))] (.cond (tT 103) .skip (.exit 8))) (sQ (.block 9 (Yr [oO 106 (.mov (kI 0))] (.block 10 (.loop (Yr [oO 107 (.bin .lss .num (tT 106) (kI 5))] (sQ (.cond (tT 107) .skip (.exit 10)) (sQ (.block 11 (Yr [oM 108 106,
 oM 11 108] (.draw [Yd 0 (oM 109 0) 0 0,Yd 1 (oM 110 11) 0 0,Yd 2 (oM 111 10) 0 0,Yd 3 (oO 112 (.bin .add .num (tT 110) (tT 111))) 6 0,Yd 4 (oM 113 11) 0 0,Yd 5 (oM 114 10) 0 0,Yd 6 (oO 115 (.bin .add .num (tT 113) (tT 114))) 48 0,
 Yd 7 (oO 116 (.iaddrA 25 1 (tT 6) (tT 115))) 112 0,Yd 8 (Yk 117 116) 240 0,Yd 9 (oM 118 11) 0 0,Yd 10 (oO 119 (.bin .add .num (tT 118) (kI 1))) 512 0,Yd 11 (oO 120 (.bin .rem .num (tT 119) (kI 5))) 1536 0,
 Yd 12 (oM 121 10) 0 0,Yd 13 (oO 122 (.bin .add .num (tT 120) (tT 121))) 7680 0,Yd 14 (oO 123 (.iaddrA 25 1 (tT 6) (tT 122))) 15872 0,Yd 15 (Yk 124 123) 32256 0,Yd 16 (oO 125 (.una .xor (tT 124))) 65024 0,
 Yd 17 (oM 126 11) 0 0,Yd 18 (oO 127 (.bin .add .num (tT 126) (kI 2))) 131072 0,Yd 19 (oO 128 (.bin .rem .num (tT 127) (kI 5))) 393216 0,Yd 20 (oM 129 10) 0 0,Yd 21 (oO 130 (.bin .add .num (tT 128) (tT 129))) 1966080 0,
 Yd 22 (oO 131 (.iaddrA 25 1 (tT 6) (tT 130))) 4063232 0,Yd 23 (Yk 132 131) 8257536 0,Yd 24 (oO 133 (.bin .and .num (tT 125) (tT 132))) 16776704 0,Yd 25 (oO 134 (.bin .xor .num (tT 117) (tT 133))) 33554416 1,
 Yd 26 (oO 135 (.nilck (tT 109))) 1 0,Yd 27 (oO 136 (.iaddrA 25 1 (tT 135) (tT 112))) 134217727 1,Yd 28 (Ys 1 136 134) 268435455 1]))) (Yg [oO 137 (.bin .add .num (tT 106) (kI 1)),oM 106 137])))))))) (Yg [oM 104 10,
 oO 105 (.bin .add .num (tT 104) (kI 5)),oM 10 105])))))) (.draw [Yd 0 (oM 138 0) 0 1,Yd 1 (oO 139 (.nilck (tT 138))) 1 1,Yd 2 (oO 140 (.iaddrA 25 1 (tT 139) (kI 0))) 3 1,Yd 3 (Yk 141 140) 7 1,Yd 4 (oM 142 3) 0 0,
 Yd 5 (oO 143 (.bin .xor .num (tT 141) (tT 142))) 31 1,Yd 6 (oO 144 (.nilck (tT 138))) 1 0,Yd 7 (oO 145 (.iaddrA 25 1 (tT 144) (kI 0))) 127 1,Yd 8 (Ys 1 145 143) 255 1])))))))) (Yg [oO 146 (.bin .add .num (tT 13) (kI 1)),
 oM 13 146])))))))
theorem ok194 : FnOk Tryz.prog 194 147 ir194 [] := Yf Tryz.func194 Tryz.ntmps194 mixed
def ir195 : ACode := (Yr [Yb 4 0,Yb 5 1,Yb 6 2,Yb 7 3,oO 8 (.alloc [nS]),oO 9 (.alloc [nS])] (sQ (Yr [Ya 10 3 4,Yk 11 10,oO 12 (.bin .gtr .num (tT 11) (kI 0)),oM 13 12,oT 13 14 (.faddr 1 (tT 4)),oT 13 15 (.load false 1 (tT 14)),
 oO 16 (.pick (tT 13) (tT 15) kF)] (.cond (tT 16) (.draw [Yd 0 (Yl 17 1 6) 0 0,Yd 1 (Ya 18 3 4) 0 0,Yd 2 (Yk 19 18) 2 0,Yd 3 (Yc 20 34 [tT 17,tT 19]) 7 0,Yd 4 (Yl 21 1 7) 0 0,Yd 5 (Ya 22 3 4) 0 0,Yd 6 (Yk 23 22) 32 0,
 Yd 7 (Yc 24 34 [tT 21,tT 23]) 127 1,Yd 8 (Ys 1 6 20) 255 1,Yd 9 (Ys 1 7 24) 511 1]) (Yr [Ya 25 3 4,Yk 26 25,oO 27 (.bin .gtr .num (tT 26) (kI 0))] (.cond (tT 27) (.draw [Yd 0 (Yl 28 1 6) 0 0,Yd 1 (Ya 29 3 4) 0 0,
 Yd 2 (Yk 30 29) 2 0,Yd 3 (Yc 31 15 [tT 28,tT 30]) 7 0,Yd 4 (Yl 32 1 7) 0 0,Yd 5 (Ya 33 3 4) 0 0,Yd 6 (Yk 34 33) 32 0,Yd 7 (Yc 35 15 [tT 32,tT 34]) 127 1,Yd 8 (Ys 1 6 31) 255 1,Yd 9 (Ys 1 7 35) 511 1]) .skip)))) (sQ (Yr [Ya 36 0 4,
 Yk 37 36] (.cond (tT 37) (.draw [Yd 0 (Ya 38 1 5) 0 0,Yd 1 (Yk 39 38) 1 0,Yd 2 (Yl 40 1 6) 0 0,Yd 3 (Yc 41 37 [tT 39,tT 40]) 7 0,Yd 4 (Ya 42 1 5) 0 0,Yd 5 (Yk 43 42) 16 0,Yd 6 (Yl 44 1 7) 0 0,Yd 7 (Yc 45 37 [tT 43,
 tT 44]) 127 1,Yd 8 (Ys 1 6 41) 255 1,Yd 9 (Ys 1 7 45) 511 1]) .skip)) (sQ (.draw [Yd 0 (Yl 46 1 6) 0 0,Yd 1 (Yl 47 1 7) 0 0,Yd 2 (Ys 1 8 46) 1 2,Yd 3 (Ys 1 9 47) 7 1]) .ret))))
theorem ok195 : FnOk Tryz.prog 195 48 ir195 [.cell 8 true 1, .cell 9 true 1] := Yf Tryz.func195 Tryz.ntmps195 mixed
def ir196 : ACode := (Yr [Yb 4 1,Yb 5 2,oO 6 (.mov (.const Yu))] (Yr [oO 7 (.mov (.const Yu))] (sQ (Yr [oM 10 0,Yn 11 10,oO 12 (.mov (kI 0))] (.block 0 (.loop (Yr [oO 13 (.bin .lss .num (tT 12) (tT 11))] (sQ (.cond (tT 13) .skip (.exit 0)) (sQ (.block 1 (Yr [Yi 14 2 10 12,
 Yl 15 2 14,oO 9 (.alloc [nS,nS]),Ys 2 9 15] (Yg [oM 16 7,Yl 17 2 9,Yl 18 1 4,Yl 19 1 5,Yc 20 208 [tT 17,tT 18,tT 19],oO 21 (.mx (tT 16) (tT 20)),oM 7 21]))) (Yg [oO 22 (.bin .add .num (tT 12) (kI 1)),oM 12 22]))))))) (Yr [oM 23 7,
 oM 6 23] .ret))))
theorem ok196 : FnOk Tryz.prog 196 24 ir196 [.tmp 6] := Yf Tryz.func196 Tryz.ntmps196 mixed
def ir205 : ACode := (Yr [Yb 2 0,oO 4 (.mov kF)] (Yr [Yl 8 1 2,Yc 9 155 [tT 8],oM 7 9,Yx 10 7 0,Yx 11 7 1,oM 5 10,oM 6 11] (Yr [oM 12 6,oM 13 12,oT 13 14 (.mov (tT 5)),oT 13 15 (.mov (tT 1)),oT 13 16 (.bin .gtr .num (tT 14) (tT 15)),
 oO 17 (.pick (tT 13) (tT 16) kF),oM 4 17] .ret)))
theorem ok205 : FnOk Tryz.prog 205 18 ir205 [.tmp 4] := Yf Tryz.func205 Tryz.ntmps205 mixed
def ir207 : ACode := (Yr [oO 4 (.mov (.const (.int .u64 0)))] (Yr [oM 6 1,oO 7 (.conv .u64 (tT 6)),oO 8 (.bin .and .num (tT 7) (.const (.int .u64 63))),oM 5 8] (Yr [oM 9 0,oM 10 5,oO 11 (.bin .shl .num (tT 9) (tT 10)),
 oM 12 0,oM 13 5,oO 14 (.bin .sub .num (.const (.int .u64 64)) (tT 13)),oO 15 (.bin .shr .num (tT 12) (tT 14)),oO 16 (.bin .or .num (tT 11) (tT 15)),oM 4 16] .ret)))
theorem ok207 : FnOk Tryz.prog 207 17 ir207 [.tmp 4] := Yf Tryz.func207 Tryz.ntmps207 mixed
def ir208 : ACode := (Yr [Yb 3 0,Yb 4 1,Yb 5 2,oO 6 (.mov (.const Yu))] (sQ (.block 0 (Yr [Ya 8 0 3,Yl 9 1 8,Yl 10 1 5,Yc 11 75 [tT 9,tT 10],oO 12 (.una .not (tT 11)),oM 13 12,oF 13 14 (.faddr 1 (tT 3)),
 oF 13 15 (.load true 1 (tT 14)),oF 13 16 (.load true 1 (tT 4)),oF 13 17 (kC 84 [tT 15,tT 16]),oO 18 (.pick (tT 13) kT (tT 17)),oM 7 18] (.cond (tT 7) (Yr [oO 6 (.mov (.const Yu))] .ret) (Yr [Ya 20 0 3,
 Yl 21 1 20,Yl 22 1 4,Yc 23 75 [tT 21,tT 22],oM 24 23,oT 24 25 (.faddr 1 (tT 3)),oT 24 26 (.load true 1 (tT 25)),oT 24 27 (.load true 1 (tT 5)),oT 24 28 (kC 84 [tT 26,tT 27]),oT 24 29 (.una .not (tT 28)),
 oO 30 (.pick (tT 24) (tT 29) kF),oM 19 30] (.cond (tT 19) (Yr [oO 6 (.mov (.const (.int .u8 2)))] .ret) .skip))))) (Yr [oO 6 (.mov (.const (.int .u8 1)))] .ret)))
theorem ok208 : FnOk Tryz.prog 208 31 ir208 [.tmp 6] := Yf Tryz.func208 Tryz.ntmps208 mixed
end
section
open Go.RowKit
attribute [local irreducible] aw opsK dK
def nums (l:List Int):List (List PV):=l.map fun x => [.val (.int .i64 x)]
def words (l:List Nat):List (List PV):=l.map fun (x:Nat) => [.val (.int .u64 (x:Int))]
def setP (l:List Nat):PV:=.agg [.vec (words l) false]
theorem Z30 {α:Type} (l:List α) (g:α->List PV) (hg:∀ x∈l,pureL (g x)):pureLL (l.map g):=by
 refine (Z2b _ _).2 fun p hp=>?_; obtain⟨x,hx,rfl⟩:=Y0i.1 hp; exact hg x hx
theorem Z3C (l:List Nat):(setP l).pure:=⟨Z30 _ _ fun _ _=>⟨Yt,Yt⟩,Yt⟩
theorem Za (l:List Nat):pureLL (words l):=Z30 _ _ fun _ _=>⟨Yt,Yt⟩
def IsTrim (l:List Nat) (r:PV):Prop:=∃ k,k<=l.length/\(∀ j,k<=j->l.getD j 0=0)/\(k=0 \/ l.getD (k-1) 0≠0)/\r=setP (l.take k)
theorem Z8e (k:Nat) (h:k<=9223372036854775807):IntKind.i64.wrap (k:Int)=k:=Y0v _ ⟨by omega,by omega⟩
theorem Z4O (l:List Nat):Spec Tryz.prog 47 [.vec (words l) false] (IsTrim l):=by
 refine Yp ok47 fun C hC=>?_;refine Z2Z (k:=0) rfl fun hmax=>?_;have hlm:l.length<=maxVec:=by simpa [words] using hmax
 refine Zs ?_;refine Zc ?_;refine go ?_;refine Z3c (fun k=>k<=l.length/\∀ j,k<=j->l.getD j 0=0) id (fun k => [(0,.vec (words (l.take k)) false),(2,.ptr 0 0 0)]) l.length ⟨Y0m _,fun j hj=>by simp [Y0b,hj]⟩ ⟨by rw [Y0q]; rfl,rfl,Yt⟩ ?_;rintro k ⟨hk,hzero⟩;have hlen:(words (l.take k)).length=k:=by simp [words,hk]
 have hkm:k<=maxVec:=by omega
 (refine go ?_;repeat' (apply B<;>intro hb<;>try cases hb))
 . -- the last word
   have hpos:0<k:=by simpa [hlen] using hb
   have hsub:IntKind.i64.wrap (((words (l.take k)).length:Int)-1)=((k-1:Nat):Int):=by
    rw [hlen,show (k:Int)-1=((k-1:Nat):Int) by omega]; exact Z8e _ (by simp only [maxVec] at hkm;omega)
   refine Z7l (xs:=l.take k) rfl rfl (k-1) hsub (by simp;omega) rfl rfl ?_;have hget : (l.take k)[k - 1]'(by simp;omega) = l.getD (k - 1) 0 := by
    simp [Y0b,show k-1<l.length by omega]
   rw [hget];(refine go ?_;repeat' (apply B<;>intro hb<;>try cases hb))
   . refine ZgC (xs := l.take k) rfl 0 (k - 1) rfl (by show some _ = some _; rw [hsub]) (by omega) (by simp; omega) (fun _ => rfl) rfl ?_;(refine go ?_;repeat' (apply B<;>intro hb<;>try cases hb));refine⟨k-1,⟨by omega,fun j hj=>?_⟩,by simp; omega,rfl,rfl,⟨?_,rfl,Yt⟩⟩
     . by_cases hjk : j = k - 1
       . subst hjk; simpa using hb
       . exact hzero j (by omega)
     . show some (PV.vec (words (((l.take k).take (k - 1)).drop 0)) false) = _;rw [List.drop_zero,List.take_take,Nat.min_eq_left (by omega)]
   . refine Z7 rfl (Z3C (l.take k)) ⟨k, hk, hzero, .inr ?_, rfl⟩;intro h0;rw [h0] at hb;simp at hb
 . refine Z7 rfl (Z3C (l.take k)) ⟨k, hk, hzero, .inl ?_, rfl⟩;simpa [hlen] using hb
theorem Z1t (l:List Nat) (k:Nat):Spec Tryz.prog 83 [setP l,.val (.int .i64 k)] (· = .val (.int .u64 (l.getD k 0:Nat))):=by
 refine Yp ok83 fun C hC=>?_;refine Zs ?_;refine Zc ?_;refine Z5 rfl rfl rfl ?_;(refine go ?_;repeat' (apply B<;>intro hb<;>try cases hb))
 . have hk : k < l.length := by simpa [words] using hb
   refine Z7l (xs:=l) rfl rfl k rfl hk rfl rfl ?_;(refine go ?_;repeat' (apply B<;>intro hb<;>try cases hb));exact Z7 rfl Yt (by simp [Y0b,hk])
 . have hk : l.length <= k := by simpa [words] using hb
   exact Z7 rfl Yt (by simp [Y0b,hk,pvOf])
def ofW:List Nat->Nat
 | []=>0
 | x :: r=>x+18446744073709551616*ofW r
def Words (l:List Nat):Prop:=∀ x∈l,x<18446744073709551616
theorem Words.getD {l:List Nat} (h:Words l) (k:Nat):l.getD k 0<18446744073709551616:=by
 rw [Y0b];cases hk:l[k]? with
 | none=>simp
 | some x=>exact h x (List.mem_of_getElem? hk)
theorem Z2y:∀ {l:List Nat},Words l->∀ i,(ofW l).testBit i=(l.getD (i / 64) 0).testBit (i % 64)
 | [],_,i=>by simp [ofW]
 | x :: r, h, i => by
   have hx:x<2 ^ 64:=h x (by simp);have hr:Words r:=fun y hy=>h y (by simp [hy]);have he:ofW (x :: r)=2 ^ 64*ofW r+x:=by simp only [ofW]; omega
   rw [he,Nat.testBit_two_pow_mul_add _ hx];by_cases hi:i<64
   . rw [if_pos hi,Nat.div_eq_of_lt hi,Nat.mod_eq_of_lt hi]; rfl
   . rw [if_neg hi, Z2y hr];have h1:i / 64=(i-64) / 64+1:=by omega
     have h2:(i-64) % 64=i % 64:=by omega
     rw [h1,h2]
     rfl
theorem Z5Z:∀ {l:List Nat},(∀ j,l.getD j 0=0)->ofW l=0
 | [],_=>rfl
 | x :: r, h => by
   have h0:x=0:=h 0;have hr:ofW r=0:=Z5Z fun j=>h (j+1);simp [ofW,h0,hr]
theorem Zcc:∀ {l:List Nat} {k:Nat},(∀ j,k<=j->l.getD j 0=0)->ofW (l.take k)=ofW l
 | [],k,_=>by simp
 | x :: r,0,h=>by simp only [List.take_zero]; exact (Z5Z fun j=>h j (Y0l _)).symm
 | x :: r, k + 1, h => by
   simp only [List.take_succ_cons,ofW];rw [Zcc (l:=r) (k:=k) fun j hj=>h (j+1) (by omega)]
def digs (N:Nat):List Nat:=if h:N=0 then [] else N % 18446744073709551616 :: digs (N / 18446744073709551616)
termination_by N
decreasing_by omega
theorem ZJ:digs 0 = []:=by rw [digs]; simp
theorem Z42 {N:Nat} (h:N≠0):digs N=N % 18446744073709551616 :: digs (N / 18446744073709551616):=by rw [digs]; simp [h]
theorem Z31 (N:Nat):Words (digs N):=by
 induction N using Nat.strongRecOn with
 | _ N ih =>
   by_cases h:N=0
   . rw [h,ZJ]; intro x hx; cases hx
   . rw [Z42 h];intro x hx;rcases List.mem_cons.1 hx with rfl|hx
     . omega
     . exact ih _ (by omega) x hx
theorem Z60 (N:Nat):ofW (digs N)=N:=by
 induction N using Nat.strongRecOn with
 | _ N ih =>
   by_cases h:N=0
   . rw [h,ZJ]; rfl
   . rw [Z42 h,ofW,ih _ (by omega)]; omega
def Canon (l:List Nat):Prop:=l.length=0 \/ l.getD (l.length-1) 0≠0
theorem Zcd:∀ {l:List Nat},Words l->Canon l->digs (ofW l)=l
 | [],_,_=>by simp [ofW,ZJ]
 | x :: r, h, hc => by
   have hx:x<18446744073709551616:=h x (by simp);have hr:Words r:=fun y hy=>h y (by simp [hy]);have hcr:Canon r:=by
    cases r with
    | nil=>exact .inl rfl
    | cons y s => refine .inr ?_; rcases hc with hc | hc
                  . simp at hc
                  . simpa using hc
   have ih:=Zcd hr hcr;have hne:ofW (x :: r)≠0:=by
    simp only [ofW];cases r with
    | nil => rcases hc with hc | hc
             . simp at hc
             . simp at hc; simp [ofW]; exact hc
    | cons y s =>
      have:ofW (y :: s)≠0:=fun h0=>by rw [h0,ZJ] at ih; cases ih
      omega
   have h1:ofW (x :: r) % 18446744073709551616=x:=by simp only [ofW]; omega
   have h2:ofW (x :: r) / 18446744073709551616=ofW r:=by simp only [ofW]; omega
   rw [Z42 hne,h1,h2,ih]
def setN (N:Nat):PV:=setP (digs N)
theorem Z1 (N:Nat):(setN N).pure:=Z3C _
theorem Zce {l:List Nat} (h:Words l) (hc:Canon l):setP l=setN (ofW l):=by rw [setN,Zcd h hc]
theorem IsTrim.set {l:List Nat} (hl:Words l) {r:PV} (h:IsTrim l r):r=setN (ofW l):=by
 obtain⟨k,hk,hz,hn,rfl⟩:=h;rw [<- Zcc hz];refine Zce (fun x hx=>hl x (List.mem_of_mem_take hx)) ?_;rcases hn with rfl|hn
 . exact .inl (by simp)
 . by_cases h0 : k = 0
   . subst h0; exact .inl (by simp)
   . refine .inr ?_;have e:(l.take k).length=k:=by simp [hk]
     rw [e];simpa [Y0b,List.getElem?_take,show k-1<k by omega] using hn
theorem Z9h (l:List Nat) (k v:Nat):(words l).set k [.val (.int .u64 (v:Int))]=words (l.set k v):=by simp [words,List.map_set]
theorem Words.set {l:List Nat} (h:Words l) (k:Nat) {v:Nat} (hv:v<18446744073709551616):Words (l.set k v):=fun x hx=>by
 rcases List.mem_or_eq_of_mem_set hx with hx|rfl
 . exact h x hx
 . exact hv
theorem ZhZ {l:List Nat} (h:Words l) {k j:Nat} (hk:k<l.length) (hj:j<64):ofW (l.set k (l.getD k 0 ||| 2 ^ j))=ofW l ||| 2 ^ (64*k+j):=by
 have hv:l.getD k 0 ||| 2 ^ j<18446744073709551616:=Nat.or_lt_two_pow (n:=64) (h.getD k) (Nat.pow_lt_pow_right (by omega) hj)
 refine Nat.eq_of_testBit_eq fun i=>?_;rw [Z2y (h.set k hv),Y00,Z2y h,Nat.testBit_two_pow];by_cases hik:i / 64=k
 . subst hik;have:(l.set (i / 64) (l.getD (i / 64) 0 ||| 2 ^ j)).getD (i / 64) 0=l.getD (i / 64) 0 ||| 2 ^ j:=by simp [Y0b,hk]
   rw [this,Y00,Nat.testBit_two_pow];congr 1;rw [decide_eq_decide];omega
 . have : (l.set k (l.getD k 0 ||| 2 ^ j)).getD (i / 64) 0 = l.getD (i / 64) 0 := by
    simp only [Y0b,List.getElem?_set,if_neg (Ne.symm hik)]
   rw [this];have:¬ (64*k+j=i):=by omega
   simp [this]
def maskTo (top:Int) (l:List Int):Nat:=l.foldl (fun acc i=>if 0<=i/\i<=top then acc ||| 2 ^ i.toNat else acc) 0
def topOf (l:List Int):Int:=l.foldl (fun t i=>if i<=4095 then (if i>t then i else t) else t) (-1)
theorem Z7p {l:List Int} {i:Nat} (hi:i<l.length):topOf (l.take (i+1))=if l[i]<=4095 then (if l[i]>topOf (l.take i) then l[i] else topOf (l.take i)) else topOf (l.take i):=by
 simp only [topOf,List.take_add_one,Y0c hi,Option.toList_some,List.foldl_append,List.foldl_cons,List.foldl_nil]
 rfl
theorem topOf_take' {l:List Int} {i:Nat} (hi:i<l.length) (h:l[i]<=4095):topOf (l.take (i+1))=if l[i]>topOf (l.take i) then l[i] else topOf (l.take i):=by rw [Z7p hi,if_pos h]
theorem Zaz {l:List Int} {i:Nat} (hi:i<l.length) (h:¬ l[i]<=4095):topOf (l.take (i+1))=topOf (l.take i):=by rw [Z7p hi,if_neg h]
theorem Z6h {t:Int} {l:List Int} {i:Nat} (hi:i<l.length):maskTo t (l.take (i+1))=if 0<=l[i]/\l[i]<=t then maskTo t (l.take i) ||| 2 ^ l[i].toNat else maskTo t (l.take i):=by
 simp only [maskTo,List.take_add_one,Y0c hi,Option.toList_some,List.foldl_append,List.foldl_cons,List.foldl_nil]
theorem ZaA:∀ (l:List Int),-1<=topOf l/\topOf l<=4095:=by
 intro l;have:∀ (l:List Int) (t:Int),-1<=t->t<=4095 -> -1<=l.foldl (fun t i=>if i<=4095 then (if i>t then i else t) else t) t/\l.foldl (fun t i=>if i<=4095 then (if i>t then i else t) else t) t<=4095:=by
  intro l
  induction l with
  | nil=>intro t h1 h2; exact⟨h1,h2⟩
  | cons x r ih =>
    intro t h1 h2;simp only [List.foldl_cons];refine ih _ ?_ ?_
    . split
      . split<;>omega
      . exact h1
    . split
      . split<;>omega
      . exact h2
 exact this l (-1) (by omega) (by omega)
theorem Zdm {t:Int} {l:List Int} (h:t<0):maskTo t l=0:=by
 have:∀ (l:List Int) (a:Nat),l.foldl (fun acc i=>if 0<=i/\i<=t then acc ||| 2 ^ i.toNat else acc) a=a:=by
  intro l
  induction l with
  | nil=>intro a; rfl
  | cons x r ih=>intro a; simp only [List.foldl_cons]; rw [if_neg (by omega)]; exact ih a
 exact this l 0
theorem ZH (l:List Int):pureLL (nums l):=Z30 _ _ fun _ _=>⟨Yt,Yt⟩
theorem Z4P (l:List Int) (D:Nat->Prop):innLL D (nums l):=Zb (fun _ h=>h.elim) _ (ZH l)
theorem Zj (l:List Nat) (D:Nat->Prop):innLL D (words l):=Zb (fun _ h=>h.elim) _ (Za l)
theorem ZaB (l:List Int) (fl:Bool):Spec Tryz.prog 17 [.vec (nums l) fl] (· = setN (maskTo (topOf l) l)):=by
 refine Yp ok17 fun C hC=>?_;refine Z2Z (k:=0) rfl fun hmax=>?_;have hlm:l.length<=maxVec:=by simpa [nums] using hmax
 have hnl:(nums l).length=l.length:=by simp [nums]
 refine go ?_;refine Z3c (fun i=>i<=l.length) (fun i=>l.length-i) (fun i => [(0,.vec (nums l) fl),(2,.ptr 0 0 0),(3,.val (.int .i64 (topOf (l.take i)))),(9,.vec (nums l) fl),(10,.val (.int .i64 (l.length:Int))),(11,Yv i)]) 0 (Y0l _) ⟨rfl,rfl,rfl,rfl,by rw [<- hnl]; rfl,rfl,Yt⟩ ?_;intro i hi;have hinc:IntKind.i64.wrap ((i:Int)+1)=((i+1:Nat):Int):=Y0v _ ⟨by omega,by simp only [maxVec] at hlm; omega⟩;(refine go ?_;repeat' (apply B<;>intro hb<;>try cases hb))
 . have hil : i < l.length := by simpa using hb
   refine Qo (Zm (xs:=l) rfl rfl i rfl hil rfl) ?_;(refine go ?_;repeat' (apply B<;>intro hb<;>try cases hb))
   . refine ⟨i + 1, by omega, by omega, rfl, rfl, ⟨rfl, rfl, ?_, rfl, rfl, by show some _ = some _; rw [hinc], Yt⟩⟩;rw [topOf_take' hil (by simpa using hb)]; rfl
   . refine ⟨i + 1, by omega, by omega, rfl, rfl, ⟨rfl, rfl, ?_, rfl, rfl, by show some _ = some _; rw [hinc], Yt⟩⟩;rw [Zaz hil (by simpa using hb)]; rfl
 . -- no member
   rename_i hb2;have hil:i=l.length:=by simp at hb2; omega
   subst hil;refine Z1a rfl ⟨Yt,Yt⟩ ?_;rw [Y0q] at hb;have hlt:topOf l<0:=by simpa using hb
   rw [Zdm hlt,setN,ZJ]
   rfl
 . rename_i hb2;have hil:i=l.length:=by simp at hb2; omega
   subst hil;rw [Y0q] at hb ⊢;have hge:0<=topOf l:=by simpa using hb
   obtain⟨t,ht⟩:∃ t:Nat,topOf l=t:=⟨(topOf l).toNat,by omega⟩
   have htr:=(ZaA l).2;rw [ht] at htr ⊢;have hq:IntKind.i64.wrap ((t:Int).tdiv 64)=((t / 64:Nat):Int):=by
    rw [IntWalk.i64_quo _ _ ⟨by omega,by omega,by omega⟩]; omega
   have hq1:IntKind.i64.wrap (((t / 64:Nat):Int)+1)=((t / 64+1:Nat):Int):=Y0v _ ⟨by omega,by omega⟩;rw [hq,hq1];refine ZD (Zc7 (a:=t / 64+1) (b:=t / 64+1) rfl rfl (Y0m _) (by omega)) rfl rfl ?_;have hrep:List.replicate (t / 64+1) (zpv [Value.int .u64 0])=words (List.replicate (t / 64+1) 0):=by simp [words,zpv,pvOf]
   rw [hrep];refine go ?_;refine Zn hC (fun (x:Nat×List Nat)=>x.1<=l.length/\x.2.length=t / 64+1/\Words x.2/\ofW x.2=maskTo t (l.take x.1)) (fun x=>l.length-x.1) 2 (fun x => [(2,.ptr 0 0 0),(3,.val (.int .i64 (t:Int))),(6,.own 1),(28,.vec (nums l) fl),(29,.val (.int .i64 (l.length:Int))),(30,.val (.int .i64 (x.1:Int)))])
    (fun x => [(0,⟨1,[[.vec [] true]]⟩),(1,⟨1,words x.2⟩)]) (by omega) (0,List.replicate (t / 64+1) 0) ⟨Y0l _,by simp,fun x hx=>by obtain rfl:=List.eq_of_mem_replicate hx; omega,?_⟩ ⟨⟨rfl,show (0:Nat)<2 by decide⟩,⟨rfl,Yt⟩,⟨rfl,show (1:Nat)<2 by decide⟩,⟨rfl,Z4P _ _⟩,⟨by rw [<- hnl]; rfl,Yt⟩,⟨rfl,Yt⟩,Yt⟩
    ⟨⟨by omega,rfl,⟨Yt,Yt⟩,Yt⟩,⟨by omega,rfl,Zj _ _⟩,Yt⟩ ?_
   . rw [Z5Z fun j=>by simp [Y0b,List.getElem?_replicate]; split<;>rfl]; rfl
   rintro⟨i,ws⟩ ⟨hi,hwl,hww,hmask⟩;simp only at hi hwl hww hmask;have hinc:IntKind.i64.wrap ((i:Int)+1)=((i+1:Nat):Int):=Y0v _ ⟨by omega,by simp only [maxVec] at hlm; omega⟩;(refine go ?_;repeat' (apply B<;>intro hb<;>try cases hb))
   . have hil : i < l.length := by simpa using hb
     refine Qo (Zm (xs:=l) rfl rfl i rfl hil rfl) ?_;(refine go ?_;repeat' (apply B<;>intro hb<;>try cases hb))
     . have h0 : 0 <= l[i] := by rename_i h0; simpa using h0
       have h1:l[i]<=(t:Int):=by simpa using hb
       have hm:maskTo t (l.take (i+1))=maskTo t (l.take i) ||| 2 ^ l[i].toNat:=by rw [Z6h hil,if_pos ⟨h0,h1⟩]
       obtain⟨j,hj⟩:∃ j:Nat,l[i]=j:=⟨l[i].toNat,by omega⟩
       rw [hj] at h1 hm ⊢;rw [Int.toNat_natCast] at hm;have hjq:IntKind.i64.wrap ((j:Int).tdiv 64)=((j / 64:Nat):Int):=by
        rw [IntWalk.i64_quo _ _ ⟨by omega,by omega,by omega⟩]; omega
       have hjr:(j:Int).tmod 64=((j % 64:Nat):Int):=by
        rw [Int.tmod_eq_emod_of_nonneg (by omega)]; omega
       rw [hjq];have hjl:j / 64<ws.length:=by omega
       have hel:(words ws).getD (j / 64) [] = [.val (.int .u64 (ws.getD (j / 64) 0:Nat))]:=by simp [words,Y0b,hjl]
       have hj64:j % 64<64:=Nat.mod_lt _ (by omega);have hwn:(words ws).length=ws.length:=by simp [words]
       refine Qr (ZE rfl rfl rfl (j / 64) rfl (by rw [hwn]; exact hjl) rfl) ?_;refine Qr (Z1S rfl rfl (by rw [hwn]; exact hjl) (by rw [hel]; rfl)) ?_;(first|refine st ?_|(apply B<;>intro hb<;>try cases hb));refine Qr (ZR rfl hjr) ?_
       refine Qr (ZeF rfl rfl (by omega) (v:=((2 ^ (j % 64):Nat):Int)) (by
        rw [show min (((j % 64:Nat):Int)).toNat IntKind.u64.bits=j % 64 by simp [IntKind.bits]; omega];have:2 ^ (j % 64)<2 ^ 64:=Nat.pow_lt_pow_right (by omega) hj64;rw [Int.one_mul,show (2:Int) ^ (j % 64)=((2 ^ (j % 64):Nat):Int) by simp]
        exact Y0x _ ⟨Int.natCast_nonneg _,Int.ofNat_le.2 (show _<=18446744073709551615 by omega)⟩)) ?_
       refine Qr (ZR rfl (bits_or_u64_nat _ _ (hww.getD _) (show 2 ^ (j % 64)<2 ^ 64 from Nat.pow_lt_pow_right (by omega) hj64))) ?_;refine Qr (ZE rfl rfl rfl (j / 64) rfl (by rw [hwn]; exact hjl) rfl) ?_;refine Qr (Z1L rfl rfl rfl rfl rfl (by rw [hwn]; exact hjl) (Y0m _)) ?_;rw [hel,show setAt [PV.val (Value.int .u64 (ws.getD (j / 64) 0:Nat))] 0 (PV.val (Value.int .u64 ((ws.getD (j / 64) 0 ||| 2 ^ (j % 64):Nat):Int))).cells = [.val (.int .u64 ((ws.getD (j / 64) 0 ||| 2 ^ (j % 64):Nat):Int))] from rfl];simp only;rw [Z9h];(refine go ?_;repeat' (apply B<;>intro hb<;>try cases hb));refine⟨(i+1,ws.set (j / 64) (ws.getD (j / 64) 0 ||| 2 ^ (j % 64))),⟨by simp only; omega,by simpa using hwl,hww.set _ (Nat.or_lt_two_pow (n:=64) (hww.getD _) (Nat.pow_lt_pow_right (a:=2) (by omega) hj64)),?_⟩,by simp only; omega,⟨⟨rfl,show (0:Nat)<2 by decide⟩,⟨rfl,Yt⟩,⟨rfl,show (1:Nat)<2 by decide⟩,⟨rfl,Z4P _ _⟩,⟨rfl,Yt⟩,⟨by show some _=some _; rw [hinc],Yt⟩,Yt⟩,⟨⟨by omega,rfl,⟨Yt,Yt⟩,Yt⟩,⟨by omega,rfl,Zj _ _⟩,Yt⟩⟩;simp only;rw [ZhZ hww hjl hj64,hm,hmask,show 64*(j / 64)+j % 64=j by omega]
     all_goals
      refine⟨(i+1,ws),⟨by simp only; omega,hwl,hww,?_⟩,by simp only; omega,⟨⟨rfl,show (0:Nat)<2 by decide⟩,⟨rfl,Yt⟩,⟨rfl,show (1:Nat)<2 by decide⟩,⟨rfl,Z4P _ _⟩,⟨rfl,Yt⟩,⟨by show some _=some _; rw [hinc],Yt⟩,Yt⟩,⟨⟨by omega,rfl,⟨Yt,Yt⟩,Yt⟩,⟨by omega,rfl,Zj _ _⟩,Yt⟩⟩;simp only;rw [Z6h hil,if_neg (by simp at hb;omega)];exact hmask
   . have hil : i = l.length := by simp at hb; omega
     subst hil;refine Zf (Zp (k:=52) rfl rfl (Za ws)) ?_;refine ZT rfl rfl (Z4O ws) ⟨Za ws,Yt⟩ rfl fun r hr=>?_;obtain rfl:=hr.set hww;refine go ?_;exact Z7 (r:=setN (ofW ws)) rfl (Z1 _) (by rw [hmask,Y0q])
theorem Z8f (a k:Nat):Int.fdiv (a:Int) (2 ^ k)=((a / 2 ^ k:Nat):Int):=by
 rw [Int.fdiv_eq_ediv_of_nonneg _ (by exact Int.le_of_lt (Int.pow_pos (by omega)))];simp
theorem Zcf (l:List Nat) (hl:Words l) (i:Int):Spec Tryz.prog 35 [setP l,.val (.int .i64 i)] (· = .val (.bool (decide (0<=i/\i<=4095)&&(l.getD (i.toNat / 64) 0).testBit (i.toNat % 64)))):=by
 refine Yp ok35 fun C hC=>?_;refine Zs ?_;refine Zc ?_;refine Z5 rfl rfl rfl ?_;(refine go ?_;repeat' (apply B<;>intro hb<;>try cases hb))
 . rename_i h0;have h1:0<=i:=by simpa using h0
   have h2:i<=4095:=by simpa using hb
   obtain⟨j,rfl⟩:∃ j:Nat,i=j:=⟨i.toNat,by omega⟩
   have hq:IntKind.i64.wrap ((j:Int).tdiv 64)=((j / 64:Nat):Int):=by
    rw [IntWalk.i64_quo _ _ ⟨by omega,by omega,by omega⟩]; omega
   have hr:(j:Int).tmod 64=((j % 64:Nat):Int):=by
    rw [Int.tmod_eq_emod_of_nonneg (by omega)]; omega
   refine Z6 (Z1t l (j / 64)) rfl rfl (by show [_,_]=_; rw [hq]; rfl) ⟨Z3C l,Yt,Yt⟩ rfl ?_;refine Zo rfl ?_;(first|refine st ?_|(apply B<;>intro hb<;>try cases hb));refine Zo rfl ?_;refine Zg rfl rfl rfl hr ?_;refine Zo rfl ?_;have hw:=hl.getD (j / 64);have hm:j % 64<64:=Nat.mod_lt _ (by omega)
   refine Z3b rfl rfl (by omega) (v:=((l.getD (j / 64) 0 / 2 ^ (j % 64):Nat):Int)) (by
    rw [show min (((j % 64:Nat):Int)).toNat IntKind.u64.bits=j % 64 by simp [IntKind.bits]; omega]
    exact Z8f _ _) rfl ?_
   refine Zo rfl ?_
   refine Zg rfl rfl rfl (and_one_u64 _ (Int.natCast_nonneg _) (by
    have:=Nat.div_le_self (l.getD (j / 64) 0) (2 ^ (j % 64))
    exact Int.ofNat_le.2 (show _<=18446744073709551615 by omega))) ?_
   have ht:(((l.getD (j / 64) 0 / 2 ^ (j % 64):Nat):Int) % 2 == 1)=(l.getD (j / 64) 0).testBit (j % 64):=by
    rw [Nat.testBit_eq_decide_div_mod_eq,Bool.eq_iff_iff];generalize l.getD (j / 64) 0 / 2 ^ (j % 64)=z;simp only [beq_iff_eq,Y0n];omega
   have ht':(decide (0<=(j:Int)/\(j:Int)<=4095)&&(l.getD ((j:Int).toNat / 64) 0).testBit ((j:Int).toNat % 64))=(l.getD (j / 64) 0).testBit (j % 64):=by
    simp only [Int.toNat_natCast,decide_eq_true (show 0<=(j:Int)/\(j:Int)<=4095 from ⟨h1,h2⟩),Bool.true_and]
   rw [ht',<- ht];refine Zo rfl ?_;generalize (((l.getD (j / 64) 0 / 2 ^ (j % 64):Nat):Int) % 2)=z;(refine go ?_;repeat' (apply B<;>intro hb<;>try cases hb))
   all_goals exact Z7 rfl Yt (by rw [hb])
 . exact Z7 rfl Yt (by simp at hb ⊢;omega)
 . exact Z7 rfl Yt (by simp at hb ⊢;omega)
def rep (c:Nat):Nat->Nat
 | 0=>0
 | n+1=>c+256*rep c n
def s1 (m x:Nat):Nat:=(x / 2 &&& m)+(x &&& m)
def s2 (m x:Nat):Nat:=(x / 4 &&& m)+(x &&& m)
def s3 (m x:Nat):Nat:=(x / 16+x) &&& m
theorem ZaC (l:List Int):(nums l).length=l.length:=by simp [nums]
theorem ZeL (N:Nat) (r:Int) (h1:0<=r) (h2:r<=4095):Spec Tryz.prog 35 [.agg [.vec (words (digs N)) false],.val (.int .i64 r)] (· = .val (.bool (N.testBit r.toNat))):=by
 have h:=Zcf (digs N) (Z31 N) r;rw [decide_eq_true (⟨h1,h2⟩:0<=r/\r<=4095),Bool.true_and,<- Z2y (Z31 N),Z60] at h;exact h
theorem Z6i (N j:Nat):((((N / 2 ^ j % 2:Nat):Int)) == 1)=N.testBit j:=by
 rw [Nat.testBit_eq_decide_div_mod_eq,Bool.eq_iff_iff];simp only [beq_iff_eq,Y0n];omega
theorem Z3D (N j:Nat) (h:j<64):Int.fdiv (N:Int) (2 ^ (min ((j:Nat):Int).toNat IntKind.u64.bits))=((N / 2 ^ j:Nat):Int):=by
 rw [show min (((j:Nat):Int)).toNat IntKind.u64.bits=j by simp [IntKind.bits]; omega];exact Z8f _ _
theorem Z3d (N j:Nat):(((N / 2 ^ j:Nat):Int)).tmod 2=((N / 2 ^ j % 2:Nat):Int):=by
 generalize N / 2 ^ j=z;rw [Int.tmod_eq_emod_of_nonneg (by omega)]; omega
theorem Zdn (N:Nat):Canon (digs N):=by
 induction N using Nat.strongRecOn with
 | _ N ih =>
   by_cases h:N=0
   . rw [h,ZJ]; exact .inl rfl
   . rw [Z42 h];refine .inr ?_;have:=ih (N / 18446744073709551616) (by omega);cases hd:digs (N / 18446744073709551616) with
     | nil =>
       have h0:=Z60 (N / 18446744073709551616);rw [hd] at h0;simp only [ofW] at h0;simp;omega
     | cons y s =>
       rw [hd] at this;rcases this with h|h
       . simp at h
       . simpa using h
theorem ZeM:∀ (l:List Nat) (k:Nat),ofW (l++List.replicate k 0)=ofW l
 | [], k => by
   rw [List.nil_append];exact Z5Z fun j=>by rw [Y0b,List.getElem?_replicate]; split<;>rfl
 | x :: r,k=>by simp only [List.cons_append,ofW,ZeM r k]
theorem ZeN (x j:Nat):x ||| 2 ^ j≠0:=fun h=>by
 have:=congrArg (fun z=>Nat.testBit z j) h;simp [Y00] at this
theorem Zdo (N i:Nat) (h:i<=4095) (L:Nat) (hL:L=max (digs N).length (i / 64+1)) :
 let l:=digs N++List.replicate (L-(digs N).length) 0
 Words l/\l.length=L/\i / 64<l.length/\∃ v,v=l.getD (i / 64) 0 ||| 2 ^ (i % 64)/\setP (l.set (i / 64) v)=setN (N ||| 2 ^ i):=by
 intro l;have hw:Words l:=fun x hx=>by
  rcases Y0h.1 hx with hx|hx
  . exact Z31 N x hx
  . rw [List.eq_of_mem_replicate hx]; omega
 have hl:l.length=L:=by simp [l]; omega
 have hi:i / 64<l.length:=by omega
 refine⟨hw,hl,hi,_,rfl,?_⟩;have hm:i % 64<64:=Nat.mod_lt _ (by omega);have hv:l.getD (i / 64) 0 ||| 2 ^ (i % 64)<18446744073709551616:=Nat.or_lt_two_pow (n:=64) (hw.getD _) (Nat.pow_lt_pow_right (by omega) hm)
 have hc:Canon (l.set (i / 64) (l.getD (i / 64) 0 ||| 2 ^ (i % 64))):=by
  refine .inr ?_;rw [List.length_set,hl];by_cases he:L-1=i / 64
  . rw [he, Y0b, List.getElem?_set];simp only [if_pos hi,if_true,Option.getD_some];exact ZeN _ _
  . have hLd : L = (digs N).length := by omega
    rw [Y0b,List.getElem?_set,if_neg (Ne.symm he),<- Y0b];have hl2:l=digs N:=by simp [l,hLd]
    rw [hl2,hLd];rcases Zdn N with h0|h0
    . omega
    . exact h0
 rw [Zce (hw.set _ hv) hc,ZhZ hw hi hm,ZeM,Z60,show 64*(i / 64)+i % 64=i by omega]
def withN (N:Nat) (i:Int):Nat:=if 0<=i/\i<=4095 then N ||| 2 ^ i.toNat else N
theorem ZeO {N i:Nat} (h:N.testBit i=true):N ||| 2 ^ i=N:=by
 refine Nat.eq_of_testBit_eq fun j=>?_;rw [Y00,Nat.testBit_two_pow];by_cases hj:i=j
 . subst hj; simp [h]
 . simp [hj]
theorem Z3E (N:Nat) (hN:(digs N).length<=64) (i:Int):Spec Tryz.prog 15 [setN N,.val (.int .i64 i)] (· = setN (withN N i)):=by
 refine Yp ok15 fun C hC=>?_;refine Zs ?_;refine Zc ?_;refine Z5 rfl rfl rfl ?_;(refine go ?_;repeat' (apply B<;>intro hb<;>try cases hb))
 . refine Z7 rfl (Z1 N) ?_;rw [withN,if_neg (by simp at hb;omega)]; rfl
 . refine Z7 rfl (Z1 N) ?_;rw [withN,if_neg (by simp at hb;omega)]; rfl
 rename_i h0;have h1:0<=i:=by simp at h0; omega
 have h2:i<=4095:=by simp at hb; omega
 obtain⟨j,rfl⟩:∃ j:Nat,i=j:=⟨i.toNat,by omega⟩
 rw [withN,if_pos ⟨h1,h2⟩,Int.toNat_natCast];have hs:=ZeL N j h1 h2;rw [Int.toNat_natCast] at hs;refine Qe hs ⟨⟨Za _,Yt⟩,Yt,Yt⟩ ?_;cases ht:N.testBit j with
 | true =>
   refine go ?_;refine Z7 rfl (Z1 N) ?_;rw [ZeO ht]; rfl
 | false =>
   have hdl:(words (digs N)).length=(digs N).length:=by simp [words]
   obtain⟨hw,hl,hi,v,hv,hset⟩:=Zdo N j (by omega) _ rfl;have hq:IntKind.i64.wrap ((j:Int).tdiv 64)=((j / 64:Nat):Int):=by
    rw [IntWalk.i64_quo _ _ ⟨by omega,by omega,by omega⟩]; omega
   have hr:(j:Int).tmod 64=((j % 64:Nat):Int):=by
    rw [Int.tmod_eq_emod_of_nonneg (by omega)]; omega
   have hq1:IntKind.i64.wrap (((j / 64:Nat):Int)+1)=((j / 64+1:Nat):Int):=Y0v _ ⟨by omega,by omega⟩;have hmax:(if ((j / 64+1:Nat):Int)>(((words (digs N)).length:Nat):Int) then ((j / 64+1:Nat):Int) else (((words (digs N)).length:Nat):Int))=((max (digs N).length (j / 64+1):Nat):Int):=by
    rw [hdl]; split<;>omega
   generalize max (digs N).length (j / 64+1)=L at *;refine go ?_;rw [hq,hq1,hmax];refine ZD (Zc7 (a:=L) (b:=L) rfl rfl (Y0m _) (by omega)) rfl rfl ?_;have hrep:List.replicate L (zpv [Value.int .u64 0])=words (List.replicate L 0):=by simp [words,zpv,pvOf]
   rw [hrep];have hcopy:(words (digs N)).take (words (List.replicate L 0)).length++(words (List.replicate L 0)).drop (words (digs N)).length=words (digs N++List.replicate (L-(digs N).length) 0):=by
    have hle:(digs N).length<=L:=by omega
    have e1:(words (List.replicate L 0)).length=L:=by simp [words]
    rw [e1,List.take_of_length_le (by rw [hdl]; exact hle),hdl];simp [words,Y0r,List.drop_replicate]
   have hwl:∀ c∈words (digs N),c.length=1:=fun c hc=>by obtain⟨x,_,rfl⟩:=Y0i.1 hc; rfl
   iterate 7 (first|refine st ?_|(apply B<;>intro hb<;>try cases hb))
   refine Qo (Zjs (k:=1) rfl rfl rfl hwl rfl) ?_;simp only;rw [hcopy];generalize digs N++List.replicate (L-(digs N).length) 0=ws at *;have hm64:j % 64<64:=Nat.mod_lt _ (by omega);have hwn:(words ws).length=ws.length:=by simp [words]
   have hel:(words ws).getD (j / 64) [] = [.val (.int .u64 (ws.getD (j / 64) 0:Nat))]:=by simp [words,Y0b,hi]
   refine go ?_;rw [hq];refine Qr (ZE rfl rfl rfl (j / 64) rfl (by rw [hwn]; exact hi) rfl) ?_;refine Qr (Z1S rfl rfl (by rw [hwn]; exact hi) (by rw [hel]; rfl)) ?_;(first|refine st ?_|(apply B<;>intro hb<;>try cases hb));refine Qr (ZR rfl hr) ?_
   refine Qr (ZeF rfl rfl (by omega) (v:=((2 ^ (j % 64):Nat):Int)) (by
    rw [show min (((j % 64:Nat):Int)).toNat IntKind.u64.bits=j % 64 by simp [IntKind.bits]; omega];have:2 ^ (j % 64)<2 ^ 64:=Nat.pow_lt_pow_right (by omega) hm64;rw [Int.one_mul,show (2:Int) ^ (j % 64)=((2 ^ (j % 64):Nat):Int) by simp]
    exact Y0x _ ⟨Int.natCast_nonneg _,Int.ofNat_le.2 (show _<=18446744073709551615 by omega)⟩)) ?_
   refine Qr (ZR rfl (bits_or_u64_nat _ _ (hw.getD _) (show 2 ^ (j % 64)<2 ^ 64 from Nat.pow_lt_pow_right (by omega) hm64))) ?_;refine Qr (ZE rfl rfl rfl (j / 64) rfl (by rw [hwn]; exact hi) rfl) ?_;refine Qr (Z1L rfl rfl rfl rfl rfl (by rw [hwn]; exact hi) (Y0m _)) ?_;rw [hel,show setAt [PV.val (Value.int .u64 (ws.getD (j / 64) 0:Nat))] 0 (PV.val (Value.int .u64 ((ws.getD (j / 64) 0 ||| 2 ^ (j % 64):Nat):Int))).cells = [.val (.int .u64 ((ws.getD (j / 64) 0 ||| 2 ^ (j % 64):Nat):Int))] from rfl];simp only;rw [Z9h,<- hv];generalize ws.set (j / 64) v=w2 at *
   iterate 4 (first|refine st ?_|(apply B<;>intro hb<;>try cases hb))
   refine Zf (Zp (k:=40) rfl rfl (Za w2)) ?_;refine go ?_;refine Z7 rfl (Z3C w2) ?_;exact hset
def lowN (s:Nat):Nat->Nat
 | 0=>0
 | k+1=>if s.testBit k/\1<=k then lowN s k ||| 2 ^ k else lowN s k
theorem Z32 {N:Nat} (h:N<18446744073709551616):(digs N).length<=1:=by
 by_cases h0:N=0
 . rw [h0,ZJ]; simp
 . rw [Z42 h0,Nat.div_eq_of_lt h,ZJ]; simp
end
section
open Go.RowKit
section
variable {P:Program} {C:Ctx} {Fr:Nat->Prop} {e:Env} {h:Heap} {n:Nat} {F:Froz} {φ:Locs} {a:Act} {w:World} {K:Nat->Env->Heap->Prop} {os:List AOper} {d:Option Nat} {Q:Exit->Nat->Env->Heap->Prop}
theorem PSpec.frame {f:FuncId} {b:Bx} {rest:List PV} {R:PV->Bx->Prop} (hs:PSpec P f b rest R) (hpb:pureLL b.elems) (hpr:pureL rest) {id:Nat} (hb:h id=some b) :
 ISpec P f n (.ptr id 0 0 :: rest) h fun n' r h'=>∃ b',n'=n/\h'=h.upd id b'/\r.pure/\pureLL b'.elems/\R r b':=by
 refine⟨hs.1,fun C e F φ a w vs s hv=>(hs.run hpb hpr hb s hv).mono ?_⟩;rintro en w' ⟨v,r,b',F',rfl,⟨h1,h2,h3⟩,hvr,s'⟩;exact⟨v,r,n,_,F',φ,rfl,⟨b',rfl,rfl,h1,h2,h3⟩,hvr,s'⟩
theorem ZP {f:Operand} {args:List Operand} {g:FuncId} {caps as0 rest:List PV} {b:Bx} {id:Nat} {R:PV->Bx->Prop} (hs:PSpec P g b rest R) (hf:ev e f=some (.fn g caps)) (ha:evs e args=some as0) (hr:as0++caps=.ptr id 0 0 :: rest) (hb:h id=some b) (hpb:pureLL b.elems) (hpr:pureL rest)
 (hk:∀ r b',r.pure->pureLL b'.elems->R r b'->opsK P os n (updO e d r) (h.upd id b') K):opsK P (⟨d,.call f args,none⟩ :: os) n e h K:=by
 refine Z1D hf ha (R:=fun n' r h'=>∃ b',n'=n/\h'=h.upd id b'/\r.pure/\pureLL b'.elems/\R r b') (by rw [hr]; exact hs.frame hpb hpr hb) ?_;rintro n' r h' ⟨b',rfl,rfl,h1,h2,h3⟩;exact hk r b' h1 h2 h3
theorem Z1M {f nt:Nat} {ac:ACode} {rs:List ARes} (hf:FnOk P f nt ac rs) {b:Bx} {rest:List PV} {R:PV->Bx->Prop} (hn:rest.length+1<=nt) (hk:∀ C:Ctx,C.dom 1->aw P C ac (retI rs fun _ r h'=>∃ b',h' 0=some b'/\r.pure/\pureLL b'.elems/\R r b') 1 (argEnv (.ptr 0 0 0 :: rest)) (heapL [(0,b)])):PSpec P f b rest R :=
 Z1K hf hn hk
theorem Zjw {rs:List ARes} {R:PV->Bx->Prop} {r:PV} {b':Bx} (hr:retAll rs e h=some r) (hp:r.pure) (hb:h 0=some b') (hpb:pureLL b'.elems) (hR:R r b'):∃ r0 r,retAll rs e h=some r0/\LoP r0 r/\∃ b',h 0=some b'/\r.pure/\pureLL b'.elems/\R r b' :=
 ⟨r,r,hr,.inl rfl,b',hb,hp,hpb,hR⟩
inductive FrzP (id:Nat) (l:List (List PV)):PV->PV->Prop
 | pure (p:PV) (hp:p.pure):FrzP id l p p
 | own:FrzP id l (.own id) (.vec l false)
 | agg (xs ys:List PV) (hl:xs.length=ys.length) (h:∀ i,i<xs.length->FrzP id l (xs.getD i pvu) (ys.getD i pvu)):FrzP id l (.agg xs) (.agg ys)
 | tup (xs ys:List PV) (hl:xs.length=ys.length) (h:∀ i,i<xs.length->FrzP id l (xs.getD i pvu) (ys.getD i pvu)):FrzP id l (.tup xs) (.tup ys)
theorem FrzP.rep {F':Froz} {id:Nat} {l:List (List PV)} (hF:∀ x v,F x=some v->F' x=some v) (hown:∀ v,Rep F φ v (.own id)->Rep F' φ v (.vec l false)) {p q:PV} (hr:FrzP id l p q):∀ {v:Value},Rep F φ v p->Rep F' φ v q:=by
 induction hr with
 | pure p hp=>exact fun h=>h.mono hF fun _ _ h=>h
 | own=>exact fun h=>hown _ h
 | agg xs ys hl _ ih =>
   intro v h;obtain⟨vs,rfl,h1,h2,h3⟩:=h.agg_inv;exact .agg vs ys (by rw [h1,hl]) (fun i hi=>h2 i (by rw [hl]; exact hi)) fun i hi=>ih i (by rw [hl]; exact hi) (h3 i (by rw [hl]; exact hi))
 | tup xs ys hl _ ih =>
   intro v h;obtain⟨vs,rfl,h1,h2⟩:=h.tup_inv;exact .tup vs ys (by rw [h1,hl]) fun i hi=>ih i (by rw [hl]; exact hi) (h2 i (by rw [hl]; exact hi))
theorem Z6j {k id:Nat} {b:Bx} {p q:PV} (hk:e k=some p) (hb:h id=some b) (hp:pureLL b.elems) (hq:FrzP id b.elems p q):Sub C n e h n (e.upd k q) (h.del id):=by
 rintro a w ⟨F,φ,s⟩;obtain⟨hlt,hr⟩:=s.env k _ hk;obtain⟨loc',h1,h2,h3⟩:=s.live id b hb;have s1:St' C (fun i=>n<=i) e (h.del id) F φ a w:=s.sub (fun _ _ h=>h) (fun _ _ hh=>(Heap.del_some hh).2);have hput:∀ {F':Froz},St' C (fun i=>n<=i) e (h.del id) F' φ a w->Rep F' φ (a.tmps.getD k undef) q->St C (fun i=>n<=i) (e.upd k q) (h.del id) a w:=fun {F'} s2 hrep=>by
  refine⟨F',φ,{ s2 with env:=fun j p hj=>?_ }⟩;by_cases hjk:j=k
  . subst hjk; rw [Env.upd_same] at hj; cases hj; exact⟨hlt,hrep⟩
  . rw [Env.upd_ne _ _ hjk] at hj; exact s2.env j p hj
 rcases h2 with h2|h2
 case inr =>
  refine hput s1 (hq.rep (fun _ _ h=>h) (fun v hv=>?_) hr);obtain⟨loc,hl,hz,rfl⟩:=hv.own_inv;obtain rfl:loc'=loc:=by rw [h1] at hl; simpa using hl
  have:=h2.pos;omega
 by_cases hc0:loc'.cap=0
 . have hl0 : loc'.len = 0 := by have := h2.cap; omega
   have he0:b.elems = []:=List.eq_nil_of_length_eq_zero (by rw [h2.len,hl0]);refine hput s1 (hq.rep (fun _ _ h=>h) (fun v hv=>?_) hr);obtain⟨loc,hl,hz,rfl⟩:=hv.own_inv;obtain rfl:loc'=loc:=by rw [h1] at hl; simpa using hl
   rw [he0,hl0,hc0];cases hbs:loc'.base with
   | none=>exact .vecnil false
   | some x=>exact .vec (F:=F) (φ:=φ) x 0 0 [] false (fun _ _=>undef) (fun h=>absurd rfl h) (Y0m _) (by simp) (by simp) (by simp) (by simp) (by simp)
 . obtain ⟨ad, hbase, hs, cells, ct, hg, hroom, hrep⟩ := h2.room hc0;have hhas:loc'.has ad.block:=⟨hc0,ad,hbase,rfl⟩
   have s2:=s1.frz hg (h3 _ hhas).2 (s.del_no hb h1 hhas) (h3 _ hhas).1;have hx:=Z1g (h3 _ hhas).2 cells;refine hput s2 (hq.rep hx (fun v hv=>?_) hr);obtain⟨loc,hl,hz,rfl⟩:=hv.own_inv;obtain rfl:loc'=loc:=by rw [h1] at hl; simpa using hl
   rw [hbase,<- h2.len];have hlt2:∀ i j,i<b.elems.length->j<loc'.esz->ad.off+(i*loc'.esz+j)<cells.size:=fun i j hi hj=>by
    have:=Z1C (n:=loc'.cap) (i:=i) (j:=j) (esz:=loc'.esz) (by have:=h2.cap; have:=h2.len;omega) hj;omega
   refine .vec ad loc'.cap loc'.esz b.elems false (fun i j=>cells.getD (ad.off+(i*loc'.esz+j)) undef) (fun _=>hs) (by rw [h2.len]; exact h2.cap) (by simp) (by rw [h2.len]; exact h2.max) (fun i hi=>h2.el _ (by simp [Y0b,hi])) (fun i j hi hj=>?_) (fun i j hi hj=>?_)
   . exact Z1o F _ _ (hlt2 i j hi hj) (hrep i j (by rw [<- h2.len]; exact hi) hj).1
   . exact (hrep i j (by rw [<- h2.len]; exact hi) hj).2.mono hx fun _ _ h=>h
theorem Z6k {id:Nat} {b:Bx} {i0 j0:Nat} (hb:h id=some b) (hi0:i0<b.elems.length) (hj0:j0<(b.elems.getD i0 []).length) (hcell:(b.elems.getD i0 []).getD j0 pvu=.vec [] true) (esz:Nat) (hp:0<esz) (hn:id<n) (hz:0<b.esz:=by exact Nat.le_of_ble_eq_true rfl) :
 Sub C n e h (n+1) e ((h.upd id ⟨b.esz,b.elems.set i0 ((b.elems.getD i0 []).set j0 (.own n))⟩).upd n ⟨esz,[]⟩):=by
 rintro a w ⟨F,φ,s⟩;obtain⟨loc,h1,h2,h3⟩:=s.live id b hb;have h2:=h2.cellsB hz;have hcl:(b.elems.getD i0 []).length=loc.esz:=h2.el _ (by simp [Y0b,hi0]);have hc0:loc.cap≠0:=by have:=h2.cap; have:=h2.len; omega
 obtain⟨ad,hbase,hs,cells,ct,hg,hroom,hrep⟩:=h2.room hc0;have hr0:=(hrep i0 j0 (by rw [<- h2.len]; exact hi0) (by rw [<- hcl]; exact hj0)).2;rw [hcell] at hr0;have hbase':∃ base,cells.getD (ad.off+(i0*loc.esz+j0)) undef=.slice base 0 0:=by
  rcases hr0.vec_inv with⟨_,h⟩|⟨x,cap,esz',cs,h,_,_,hf,_⟩
  . exact⟨none,h⟩
  . exact⟨some x,by rw [h,hf rfl]; rfl⟩
 obtain⟨base,hbs⟩:=hbase';have s':=s.allocNil (Y0m n) base esz hp;have hfr:∀ i,n+1<=i->n<=i/\i≠n:=fun i hi=>⟨by omega,by omega⟩
 have s2:=s'.weaken hfr;have hne:id≠n:=by omega
 have hx:=Z1w (s.free n (Y0m n)) ⟨base,esz,0,0⟩;refine⟨F,_,{ s2 with live:=fun i bi hi=>?_,sep:=fun i j bi bj li lj k hi hj hli hlj hki hkj=>?_ }⟩
 . by_cases hin : i = n
   . subst hin;rw [Heap.upd_same] at hi;cases hi;exact s2.live i _ (by rw [Heap.upd_same])
   . rw [Heap.upd_ne _ _ hin] at hi;by_cases hid:i=id
     . subst hid;rw [Heap.upd_same] at hi;cases hi;refine⟨loc,hx _ _ h1,?_,h3⟩;refine .inl ⟨h2.esz,h2.pos,by simpa using h2.len,h2.cap,h2.max,fun c hc=>?_,fun _=>⟨ad,hbase,hs,cells,ct,hg,hroom,fun i' j' hi' hj'=>?_⟩⟩
       . rcases List.mem_or_eq_of_mem_set hc with h | h
         . exact h2.el c h
         . rw [h,List.length_set]; exact hcl
       . refine ⟨(hrep i' j' hi' hj').1, ?_⟩;by_cases hii:i'=i0
         . subst hii;have e1:(b.elems.set i' ((b.elems.getD i' []).set j0 (.own n))).getD i' []=(b.elems.getD i' []).set j0 (.own n):=by
            rw [Y0b,List.getElem?_set]; simp [hi0]
           rw [e1];by_cases hjj:j'=j0
           . subst hjj;have e2:((b.elems.getD i' []).set j' (.own n)).getD j' pvu=.own n:=by
              rw [Y0b,List.getElem?_set,if_pos rfl,if_pos hj0]; rfl
             rw [e2,hbs];exact .own n ⟨base,esz,0,0⟩ (by simp [locUpd]) hp
           . have e2 : ((b.elems.getD i' []).set j0 (.own n)).getD j' pvu = (b.elems.getD i' []).getD j' pvu := by
              rw [Y0b,List.getElem?_set,if_neg (Ne.symm hjj),<- Y0b]
             rw [e2];exact (hrep i' j' hi' hj').2.mono (fun _ _ h=>h) hx
         . have e1 : (b.elems.set i0 ((b.elems.getD i0 []).set j0 (.own n))).getD i' [] = b.elems.getD i' [] := by
            rw [Y0b,List.getElem?_set,if_neg (Ne.symm hii),<- Y0b]
           rw [e1];exact (hrep i' j' hi' hj').2.mono (fun _ _ h=>h) hx
     . rw [Heap.upd_ne _ _ hid] at hi;exact s2.live i bi (by rw [Heap.upd_ne _ _ hin]; exact hi)
 . have conv : ∀ {i : Nat} {bi : Bx}, ((h.upd id ⟨b.esz, b.elems.set i0 ((b.elems.getD i0 []).set j0 (.own n))⟩).upd n ⟨esz, []⟩) i = some bi -> ∃ b0, (h.upd n ⟨esz, []⟩) i = some b0 := by
    intro i bi hi;by_cases hin:i=n
    . subst hin; exact⟨_,Heap.upd_same _ _ _⟩
    . rw [Heap.upd_ne _ _ hin] at hi ⊢;by_cases hid:i=id
      . subst hid; exact⟨b,hb⟩
      . rw [Heap.upd_ne _ _ hid] at hi; exact⟨bi,hi⟩
   obtain⟨b1,g1⟩:=conv hi
   obtain⟨b2,g2⟩:=conv hj
   exact s2.sep i j b1 b2 li lj k g1 g2 hli hlj hki hkj
theorem ZU {id:Nat} {b:Bx} {i0 j0:Nat} (hb:h id=some b) (hi0:i0<b.elems.length) (hj0:j0<(b.elems.getD i0 []).length) (hcell:(b.elems.getD i0 []).getD j0 pvu=.vec [] true) (esz:Nat) (hp:0<esz) (hn:id<n) (hz:0<b.esz:=by exact Nat.le_of_ble_eq_true rfl) :
 SubA n e h (n+1) e ((h.upd id ⟨b.esz,b.elems.set i0 ((b.elems.getD i0 []).set j0 (.own n))⟩).upd n ⟨esz,[]⟩):=fun _=>Z6k hb hi0 hj0 hcell esz hp hn hz
theorem ZeP {X:Type} {m:Nat} (hdom:C.dom m) (A:X->Prop) (N:Nat) (L:X->List (Nat×PV)) (HL:X->List (Nat×Bx)) {x y:ACode} (hm:m<=N) (h1:aw P C x (thenQ (fun n e h=>∃ z,A z/\EnvR e N (L z)/\HeapR h N (HL z)) Q) n e h) (h2:∀ z,A z->aw P C y Q N (envL (L z)) (heapL (HL z))):aw P C (.seq x y) Q n e h :=
 Zs (Z5j h1 fun ex n e h hq=>by
  cases ex with
  | normal=>obtain⟨z,ha,he,hh⟩:=hq; exact Z6e hdom (L z) (HL z) hm he hh (h2 z ha)
  | _=>exact hq)
def mv (k k':Nat):Nat->Nat:=fun i=>bif Nat.beq i k then k' else i
theorem Z4Q {k k' m:Nat} (h:m<=k):∀ i,i<m->mv k k' i=i:=by
 intro i hi;have e1:Nat.beq i k=false:=Bool.eq_false_iff.2 fun hb=>by have:=Nat.eq_of_beq_eq_true hb; omega
 unfold mv;rw [e1]; rfl
theorem Zy {ρ:Nat->Nat} {HL:List (Nat×Bx)} (h:((HL.map Prod.fst).all fun x=>(HL.map Prod.fst).all fun y => !(Nat.beq (ρ x) (ρ y))||Nat.beq x y)=true):InjOn ρ HL:=by
 intro q hq q' hq' he;have h1:=List.all_eq_true.1 h q.1 (List.mem_map_of_mem hq);have h2:=List.all_eq_true.1 h1 q'.1 (List.mem_map_of_mem hq');rw [he] at h2;have e1:Nat.beq (ρ q'.1) (ρ q'.1)=true:=Nat.beq_refl _;rw [e1] at h2;exact Nat.eq_of_beq_eq_true (by simpa using h2)
theorem Zt {HL:List (Nat×Bx)}:InjOn (fun i=>i) HL:=fun _ _ _ _ h=>h
def RenLs (ρ:Nat->Nat) (D:Nat->Prop):List PV->List PV->Prop
 | [],[]=>True
 | a :: r,b :: s=>RenP ρ D a b/\RenLs ρ D r s
 | _,_=>False
theorem RenLs.get {ρ:Nat->Nat} {D:Nat->Prop}:∀ {l m:List PV},RenLs ρ D l m->l.length=m.length/\∀ j,j<m.length->RenP ρ D (l.getD j pvu) (m.getD j pvu)
 | [],[],_=>⟨rfl,fun j hj=>by simp at hj⟩
 | a :: r, b :: s, h => by
   obtain⟨h1,h2⟩:=RenLs.get h.2;refine⟨by simp [h1],fun j hj=>?_⟩;cases j with
   | zero=>exact h.1
   | succ j=>exact h2 j (by simpa using hj)
 | [],_ :: _,h=>h.elim
 | _ :: _,[],h=>h.elim
theorem RenB.single {ρ:Nat->Nat} {D:Nat->Prop} {esz:Nat} {l0 l:List PV} (h:RenLs ρ D l0 l) (hl:l.length=esz):RenB ρ D ⟨esz,[l0]⟩ ⟨esz,[l]⟩:=by
 obtain⟨h1,h2⟩:=h.get;by_cases hz:esz=0
 . subst hz;obtain rfl:l = []:=List.eq_nil_of_length_eq_zero hl;obtain rfl:l0 = []:=List.eq_nil_of_length_eq_zero h1;exact .same _ ⟨Yt,Yt⟩
 refine .gen _ _ (Nat.pos_of_ne_zero hz) rfl rfl (fun i hi=>?_) fun i j hi hj=>?_
 . have : i = 0 := by simpa using hi
   subst this; exact h1
 . have : i = 0 := by simpa using hi
   subst this; exact h2 j (by rw [hl]; exact hj)
end
mutual
def PV.pureB:PV->Bool
 | .val _=>true
 | .agg l=>pureLB l
 | .tup l=>pureLB l
 | .vec l _=>pureLLB l
 | .cp l=>pureLB l
 | .ptr _ _ _=>false
 | .own _=>false
 | .view _ _ _=>false
 | .sl _ _ _ _ _=>false
 | .mp _=>false
 | .fn _ l=>pureLB l
def pureLB:List PV->Bool
 | []=>true
 | p :: l=>p.pureB&&pureLB l
def pureLLB:List (List PV)->Bool
 | []=>true
 | p :: l=>pureLB p&&pureLLB l
end
mutual
theorem Z2z:∀ {p:PV},p.pureB=true->p.pure
 | .val _,_=>trivial
 | .agg l,h=>by simp only [PV.inn]; exact Z1h (by simpa [PV.pureB] using h)
 | .tup l,h=>by simp only [PV.inn]; exact Z1h (by simpa [PV.pureB] using h)
 | .vec l _,h=>by simp only [PV.inn]; exact Z11 (by simpa [PV.pureB] using h)
 | .cp l,h=>by simp only [PV.inn]; exact Z1h (by simpa [PV.pureB] using h)
 | .ptr _ _ _,h=>by simp [PV.pureB] at h
 | .own _,h=>by simp [PV.pureB] at h
 | .view _ _ _,h=>by simp [PV.pureB] at h
 | .sl _ _ _ _ _,h=>by simp [PV.pureB] at h
 | .mp _,h=>by simp [PV.pureB] at h
 | .fn _ l,h=>by simp only [PV.inn]; exact Z1h (by simpa [PV.pureB] using h)
theorem Z1h:∀ {l:List PV},pureLB l=true->pureL l
 | [],_=>trivial
 | p :: l, h => by
   simp only [pureLB,Y0k] at h;exact⟨Z2z h.1,Z1h h.2⟩
theorem Z11:∀ {l:List (List PV)},pureLLB l=true->pureLL l
 | [],_=>trivial
 | p :: l, h => by
   simp only [pureLLB,Y0k] at h;exact⟨Z1h h.1,Z11 h.2⟩
end
def KpF (F:Froz) (A B:World):Prop:=(∀ x v,F x=some v->A.cell? x=some v->B.cell? x=some v)/\B.os=A.os/\B.tape=A.tape/\B.output=A.output/\A.heap.size<=B.heap.size
theorem KpF.trans {F:Froz} {A B C:World} (h:KpF F A B) (k:KpF F B C):KpF F A C :=
 ⟨fun x v hx hv=>k.1 x v hx (h.1 x v hx hv),k.2.1.trans h.2.1,k.2.2.1.trans h.2.2.1,k.2.2.2.1.trans h.2.2.2.1,Y03 h.2.2.2.2 k.2.2.2.2⟩
theorem KpF.refl (F:Froz) (A:World):KpF F A A:=⟨fun _ _ _ h=>h,rfl,rfl,rfl,Y0m _⟩
theorem KpF.grown {F:Froz} {A B:World} {row:Option Nat} (hg:A.grownBy B row) (hrow:∀ r,row=some r->∃ o:Obj,A.heap[r]?=some o/\o.isCells=false):KpF F A B :=
 ⟨fun x v _ hv=>cell_kept hv hg hrow,hg.os,hg.tape,hg.output,hg.size⟩
def IterOk (P:Program) (g:FuncId) (caps:List PV) {α:Type} (encs:α->List Value) (S Sp:List α->Prop) (M:Nat):Prop :=
 HasBody P g/\∀ (F:Froz) (w:World) (lb:Array Value) (FN:Fence) (m:Nat),FenceOk FN m->Holds F w->RepL F noLoc lb caps->SeqStopsK FN m P g lb (fun x=>(encs x).toArray) (KpF F) S Sp M w
def Ctx.apart (h:Heap) (φ:Locs) (F:Froz) (w:World) (nt:Nat):Ctx:=⟨w,fun k=>∃ i b loc,h i=some b/\φ i=some loc/\loc.has k,F,nt,φ⟩
section
variable {P:Program} {C:Ctx} {Fr Fr':Nat->Prop} {e e':Env} {h h':Heap} {F F':Froz} {φ φ':Locs} {a a':Act} {w w':World}
theorem St'.owned (s:St' C Fr e h F φ a w) {nt k:Nat} (hk:(Ctx.apart h φ F w nt).G k):(C.w0.heap.size<=k \/ C.G k)/\((∃ cells t,w.heap[k]?=some (.cells cells t (0,0))) \/ ∃ es t,w.heap[k]?=some (.map es t)):=by
 obtain⟨i,b,loc,hi,hl,hc⟩:=hk;obtain⟨loc',h1,h2,h3⟩:=s.live i b hi;obtain rfl:loc'=loc:=by rw [h1] at hl; simpa using hl
 refine⟨(h3 k hc).1,?_⟩;exact h2.there hc
theorem St'.enter (s:St' C Fr e h F φ a w):St' (Ctx.apart h φ F w C.nt) Fr e h F φ { a with defers := [] } w:=by
 refine { nt:=s.nt,glob:=s.glob,marks:=Marks.nil rfl,loc0:=fun i x hx=>hx,free:=s.free,env:=s.env,froz:=s.froz,ext:=fun _ _ h=>h,old:=fun _ _ _=>rfl,os:=rfl,tape:=rfl,output:=rfl,size:=Y0m _,kept:=fun _ _ _=>rfl,live:=fun id b hb=>?_,sep:=s.sep };obtain⟨loc,h1,h2,h3⟩:=s.live id b hb;exact⟨loc,h1,h2,fun k hk=>⟨.inr ⟨id,b,loc,hb,h1,hk⟩,(h3 k hk).2⟩⟩
theorem St'.back (s:St' C Fr e h F φ a w) {nt:Nat} (s':St' (Ctx.apart h φ F w nt) Fr' e' h' F' φ' a' w'):St' C Fr' e h' F' φ' a w':=by
 have hne:∀ k,w.heap[k]?=some (.deferred (some []))->¬ (Ctx.apart h φ F w nt).G k:=fun k hk hg=>by
  rcases (s.owned hg).2 with⟨cells,t,hc⟩|⟨es,t,hc⟩
  . rw [hk] at hc; cases hc
  . rw [hk] at hc; cases hc
 refine { nt := s.nt, glob := s'.glob, marks := s.marks.mono fun k hk => ?_, loc0 := fun i x hx => s'.loc0 i x (s.loc0 i x hx), free := s'.free, env := fun k p hp => ⟨(s.env k p hp).1, (s.env k p hp).2.mono s'.ext s'.loc0⟩, froz := s'.froz, ext := fun x v hx => s'.ext _ _ (s.ext x v hx),
          old:=fun x hx hg=>?_,os:=s'.os.trans s.os,tape:=s'.tape.trans s.tape,output:=s'.output.trans s.output,size:=Y03 s.size s'.size,kept:=fun k hk hg=>?_,live:=fun i b hi=>?_,sep:=s'.sep }
 . exact (s'.kept k (Array.getElem?_eq_some_iff.1 hk).1 (hne k hk)).trans hk
 . have hx2 : x.block < w.heap.size := Nat.lt_of_lt_of_le hx s.size;rw [s'.old x hx2 fun hg'=>(s.owned hg').1.elim (fun h1=>absurd hx (Nat.not_lt.2 h1)) hg];exact s.old x hx hg
 . have := s'.kept k (Nat.lt_of_lt_of_le hk s.size) fun hg' => (s.owned hg').1.elim (fun h1 => absurd hk (Nat.not_lt.2 h1)) hg;exact this.trans (s.kept k hk hg)
 . obtain ⟨loc, h1, h2, h3⟩ := s'.live i b hi;refine⟨loc,h1,h2,fun k hk=>⟨?_,(h3 k hk).2⟩⟩;rcases (h3 k hk).1 with h4|h4
   . exact .inl (Y03 s.size h4)
   . exact (s.owned h4).1
theorem St'.apart_keeps (s:St' C Fr e h F φ a w) {nt:Nat} (s':St' (Ctx.apart h φ F w nt) Fr' e' h' F' φ' a' w') (hnm:∀ i b,h i=some b->0<b.esz) (B:Nat):KeepsFrom B w w':=by
 refine⟨s'.size,fun k o _ hk ho=>?_⟩;refine (s'.kept k (Array.getElem?_eq_some_iff.1 hk).1 fun hg=>?_).trans hk;obtain⟨i,b,loc,hi,hl,hc⟩:=hg;obtain⟨loc',h1,h2,h3⟩:=s.live i b hi;obtain rfl:loc'=loc:=by rw [h1] at hl; simpa using hl
 obtain⟨hc0,x,hx,rfl⟩:=hc;obtain⟨y,hy,_,cells,t,hg,_⟩:=(h2.cellsB (hnm i b hi)).room hc0;obtain rfl:y=x:=by rw [hy] at hx; simpa using hx
 rw [hk] at hg;cases hg;cases ho
theorem St'.apart_kp (s:St' C Fr e h F φ a w) {nt:Nat} (s':St' (Ctx.apart h φ F w nt) Fr' e' h' F' φ' a' w') {F0:Froz} (h0:∀ x v,F0 x=some v->F x=some v):KpF F0 w w' :=
 ⟨fun x v hx _=>(s'.froz x v (s'.ext x v (h0 x v hx))).2.2,s'.os,s'.tape,s'.output,s'.size⟩
theorem ZeQ {N nt:Nat} (hfr:∀ i,N<=i->φ i=none):(Ctx.apart h φ F w nt).dom N:=hfr
end
def envP (e:Env):List Nat->List Value->Env
 | p :: ps,v :: vs=>envP (e.upd p (.val v)) ps vs
 | _,_=>e
def actP (a:Act):List Nat->List Value->Act
 | p :: ps,v :: vs=>actP (a.put (some p) v) ps vs
 | _,_=>a
def envM (e:Env):List (Nat×Operand)->Option Env
 | []=>some e
 | (d, x) :: l => match ev e x with
   | some p=>envM (e.upd d p) l
   | none=>none
def actM (a:Act):List (Nat×Operand)->Act
 | []=>a
 | (d,x) :: l=>actM (a.put (some d) (a.eval x)) l
theorem Z6l:∀ (ps:List Nat) (vs:List Value) (a:Act),(actP a ps vs).defers=a.defers
 | [],_,_=>rfl
 | _ :: _,[],_=>rfl
 | p :: ps,v :: vs,a=>by simp only [actP]; exact Z6l ps vs _
theorem Z9i:∀ (ps:List Nat) (vs:List Value) (a:Act),(actP a ps vs).tmps=(ps.zip vs).foldl (fun t (p,v)=>t.setIfInBounds p v) a.tmps
 | [],_,_=>rfl
 | _ :: _,[],_=>rfl
 | p :: ps,v :: vs,a=>by simp only [actP,List.zip_cons_cons,List.foldl_cons]; exact Z9i ps vs _
section
variable {P:Program} {C:Ctx} {Fr Fr':Nat->Prop} {h h':Heap} {F F':Froz} {φ φ':Locs} {w w':World}
theorem St'.params:∀ {ps:List Nat} {vs:List Value} {e:Env} {a:Act},St' C Fr e h F φ a w->(∀ p∈ps,p<C.nt)->St' C Fr (envP e ps vs) h F φ (actP a ps vs) w
 | [],_,_,_,s,_=>s
 | _ :: _,[],_,_,s,_=>s
 | p :: ps,v :: vs,e,a,s,hps=>(s.put (hps p (by simp)) (.val v)).params fun q hq=>hps q (by simp [hq])
theorem St'.moves:∀ {l:List (Nat×Operand)} {e e':Env} {a:Act},St' C Fr e h F φ a w->(∀ q∈l,q.1<C.nt)->envM e l=some e'->St' C Fr e' h F φ (actM a l) w
 | [],e,e',a,s,_,he=>by cases he; exact s
 | (d, x) :: l, e, e', a, s, hl, he => by
   simp only [envM] at he
   split at he
   . rename_i p hp;exact (s.put (hl _ (Y0t ..)) (s.eval hp)).moves (fun q hq=>hl q (by simp [hq])) he
   . cases he
theorem Zcg {FN:Fence} {m:Nat} (hok:FenceOk FN m) {ops:Array Oper} {K:Act->World->Prop}:∀ {l:List Oper} {ms:List (Nat×Operand)} {a:Act},cMoves l=some ms->K (actM a ms) w->wpListIn FN m P ops (Exit.then K (fun _ _ _=>False)) l a w
 | [], ms, a, hc, hk => by
   obtain rfl : []=ms:=by simpa [cMoves] using hc
   exact hk
 | o :: r, ms, a, hc, hk => by
   have key:∀ (x:Operand) (d:Nat) (l':List (Nat×Operand)) (op:AOp),cOp P o=some op->execOp a.eval o=pure (.value (a.eval x))->o.guard=none->o.dst=some d->cMoves r=some l'->ms=(d,x) :: l'->wpListIn FN m P ops (Exit.then K (fun _ _ _=>False)) (o :: r) a w:=by
    intro x d l' op hop hex hg hd hr hms;subst hms;simp only [wpListIn];rw [if_pos (by simp [Region.wanted,hg])];refine⟨fun f _=>hok.fn f,?_⟩;rw [Oper.semAt_eq FN.round a.eval o (Z1R hop),hex];have:=Zcg hok (ops:=ops) (a:=a.put (some d) (a.eval x)) hr hk;rw [<- hd] at this;exact this
   simp only [cMoves] at hc
   split at hc
   . rename_i x d l' ho hg hd hr;exact key x d l' (.mov x) (by simp [cOp,ho]) (by simp [execOp,ho]) hg hd hr (by simpa using hc.symm)
   . rename_i x d l' ho hg hd hr;exact key x d l' (.mov x) (by simp [cOp,ho]) (by simp [execOp,ho]) hg hd hr (by simpa using hc.symm)
   . cases hc
theorem Zjx {FN:Fence} {m:Nat} (hok:FenceOk FN m) {K:Act->World->Prop} {c:Code} {ms:List (Nat×Operand)} {a:Act} (hc:cAsg c=some ms) (hk:K (actM a ms) w):c.wpIn FN m P (Exit.then K (fun _ _ _=>False)) a w:=by
 unfold cAsg at hc
 split at hc
 . cases hc;exact wpIn_skip hk
 . exact wpIn_region_list (Zcg hok hc hk)
 . cases hc
end
def roundQ {β:Type} (B:Exit->β->Prop) (m N:Nat) (L:List (Nat×PV)) (HL:β->List (Nat×Bx)):Exit->Nat->Env->Heap->Prop :=
 fun ex _ _ h'=>(ex=.normal \/ ex=.ret \/ ∃ id,ex=.exit id)/\∃ z ρ,B ex z/\(∀ i,i<m->ρ i=i)/\InjOn ρ (HL z)/\EnvQ ρ (envL L) N L/\HeapQ ρ h' N (HL z)
theorem Z3F {FN:Fence} {m:Nat} (h:FenceOk FN m) (l k:Nat):FenceOk (FN.inRound l) k:=by
 refine⟨h.fn,h.depth,fun P f args w R hc=>?_⟩;obtain⟨h1,h2⟩:=h.calls P f args w R hc;exact CallsIn.inRound l ⟨h1,fun cs _=>h2 cs fun d hd=>by rw [h.depth] at hd; cases hd⟩
theorem ZaD {FN:Fence} {m:Nat} (h:FenceOk FN m) (k:Nat):FenceOk FN k:=by
 refine⟨h.fn,h.depth,fun P f args w R hc=>?_⟩;obtain⟨h1,h2⟩:=h.calls P f args w R hc;exact⟨h1,fun cs _=>h2 cs fun d hd=>by rw [h.depth] at hd; cases hd⟩
theorem ZgI {FN:Fence} {m:Nat} (hd:FN.depth=none) (k:Nat) {P:Program} {c:Code} {Q:Exit->Act->World->Prop} {a:Act} {w:World} (h:c.wpIn FN k P Q a w):c.wpIn FN m P Q a w :=
 fun b kk cs hro hb _=>h b kk cs hro hb fun d hd'=>by rw [hd] at hd'; cases hd'
theorem World.grownBy_refl (W:World):W.grownBy W none:=⟨rfl,rfl,rfl,Y0m _,fun _ _ _=>rfl⟩
section
variable {P:Program} {C:Ctx} {e:Env} {h:Heap} {n:Nat} {Q:Exit->Nat->Env->Heap->Prop}
theorem Z3e {α X:Type} {m0:Nat} (hdom:C.dom m0) {f:Operand} {ps:List Nat} {asg:List (Nat×Operand)} {body:ACode} {g:FuncId} {caps:List PV} {encs:α->List Value} {S Sp:List α->Prop} {M:Nat} (L:List (Nat×PV)) (HL:X->List (Nat×Bx))
 (hf:ev (envL L) f=some (.fn g caps)) (hp:pureL caps) (hit:IterOk P g caps encs S Sp M) (henc:∀ x,(encs x).length=ps.length)
 (B:Exit->List α->X->Prop) (N:Nat) (hm:m0<=N) (z0:X) (h0:B .normal [] z0) (hs0:Sub C n e h N (envL L) (heapL (HL z0))) (hnm:∀ z,∀ q∈HL z,0<q.2.esz)
 (e2:α->Env) (he2:∀ x,envM (envP (envL L) ps (encs x)) asg=some (e2 x))
 (round:∀ (C2:Ctx),C2.dom N->∀ pre x z,B .normal pre z->pre.length<M->aw P C2 body (roundQ (fun ex z'=>B ex (pre ++ [x]) z') m0 N L HL) N (e2 x) (heapL (HL z)))
 (done:∀ xs z,S xs->B .normal xs z->Q .normal N (envL L) (heapL (HL z)))
 (stop:∀ ex pre z,Sp pre->B ex pre z->(ex=.ret \/ ∃ id,ex=.exit id)->Q ex N (envL L) (heapL (HL z))):aw P C (.range f ps asg body) Q n e h:=by
 intro hmx FN m hokl c hc a w hs;obtain⟨hok,hlo⟩:=hokl;have:∃ ps' cg cb,c=.rangeFunc f ps' cg cb/\ps'.toList=ps/\cAsg cg=some asg/\cCode P C.nt cb=some body/\(∀ p∈ps,p<C.nt)/\∀ q∈asg,q.1<C.nt:=by
  unfold cCode at hc
  split at hc<;>first
   | (simp at hc; done)
   | (split at hc
      . split at hc
        . rename_i hall;simp only [Option.some.injEq,ACode.range.injEq] at hc;obtain⟨rfl,rfl,rfl,rfl⟩:=hc;simp only [Y0k,List.all_eq_true,Y0n] at hall;exact⟨_,_,_,rfl,rfl,by assumption,by assumption,hall.1,hall.2⟩
        . simp at hc
      . simp at hc)
   | ((repeat' (split at hc))<;>simp at hc; done)
 obtain⟨ps',cg,cb,rfl,rfl,hcg,hcb,hpl,hal⟩:=this;obtain⟨F1,φ1,s1⟩:=hs0 a w hs;obtain⟨lb,hlb,hlz,hlr⟩:=(s1.eval hf).fn_inv;have hrep:RepL F1 noLoc lb caps:=⟨hlz,fun i hi=>(hlr i hi).pure (ZN hp i)⟩
 obtain⟨⟨fn,hfn,hname,hbody⟩,hcon⟩:=hit;have eg:∀ args w,(callFunc g args).run P w=.ok (.enter g args) w:=fun args w=>by
  have h1 : ¬ fn.name = "runtime.NumGoroutine" := by simpa using hname
  have h2:¬ fn.body=none:=fun h=>by rw [h] at hbody; simp at hbody
  simp [callFunc,hfn,h1,h2]
 have hcon':∀ k,SeqStopsK FN k P g lb (fun x=>(encs x).toArray) (KpF F1) S Sp M w:=fun k=>hcon F1 w lb FN k (ZaD hok k) ⟨s1.froz,s1.glob⟩ hrep;have hmk:∀ d∈a.defers,∀ D,d={ target:=.collected D,args := #[] }->D<w.heap.size:=fun d hd D hD=>by
  obtain⟨D1,e1,_,e3⟩:=s1.marks.all d hd;rw [e1] at hD;have:D1=D:=by simpa using hD
  rw [<- this];exact (Array.getElem?_eq_some_iff.1 e3).1
 let I:List α->World->Prop:=fun pre W=>∃ z,B .normal pre z/\∃ F φ,(∀ x v,F1 x=some v->F x=some v)/\St' C (fun i=>N<=i) (envL L) (heapL (HL z)) F φ a W
 let Ix:Code->List α->World->Prop:=fun c pre W=>∃ ex z,((c=.ret/\ex=.ret) \/ ∃ id,c=.exit id/\ex=.exit id)/\B ex pre z/\∃ F φ,St' C (fun i=>N<=i) (envL L) (heapL (HL z)) F φ a W
 have hnm':∀ z i b,heapL (HL z) i=some b->0<b.esz:=fun z i b hb=>hnm z (i,b) (Z1x hb);have turn:∀ {W W':World} {row:Option Nat} {F:Froz} {φ:Locs} {hh:Heap},St' C (fun i=>N<=i) (envL L) hh F φ a W->(∀ i b,hh i=some b->0<b.esz)->W.grownBy W' row->(∀ r,row=some r->w.heap.size<=r/\∃ o:Obj,W.heap[r]?=some o/\o.isCells=false)->St' C (fun i=>N<=i) (envL L) hh F φ a W':=by
  intro W W' row F φ hh s hnm hg hr;refine s.turned hg (fun r he=>⟨Y03 s1.size (hr r he).1,(hr r he).2⟩) (.inl hnm) rfl ⟨s.marks.nd,fun d hd=>?_⟩;obtain⟨D,e1,e2,e3⟩:=s.marks.all d hd;refine⟨D,e1,e2,?_⟩;have:=hmk d hd D e1;rw [hg.block D (Array.getElem?_eq_some_iff.1 e3).1 (fun he=>by have:=(hr D he.symm).1;omega)];exact e3
 have hI:OwnFrom w.heap.size I:=by
  rintro pre W W' row ⟨z,hB,F,φ,hF,s⟩ hg hr;exact⟨z,hB,F,φ,hF,turn s (hnm' z) hg hr⟩
 have hIx:∀ c,OwnFrom w.heap.size (Ix c):=by
  rintro c pre W W' row ⟨ex,z,hc,hB,F,φ,s⟩ hg hr;exact⟨ex,z,hc,hB,F,φ,turn s (hnm' z) hg hr⟩
 have hI0:I [] w:=⟨z0,h0,F1,φ1,fun _ _ h=>h,s1⟩
 have hact:∀ x,({ tmps:=(ps'.zip (encs x).toArray).foldl (fun t (p,v)=>t.setIfInBounds p v) a.tmps,defers := [] }:Act)=actP { a with defers := [] } ps'.toList (encs x):=fun x=>by
  have h1:=Z9i ps'.toList (encs x) { a with defers := [] };have h2:=Z6l ps'.toList (encs x) { a with defers := [] };have h3:(ps'.zip (encs x).toArray).foldl (fun t (p,v)=>t.setIfInBounds p v) a.tmps=(ps'.toList.zip (encs x)).foldl (fun t (p,v)=>t.setIfInBounds p v) a.tmps:=by
   rw [<- Array.foldl_toList,Array.toList_zip]
  rw [h3];generalize actP { a with defers := [] } ps'.toList (encs x)=b at h1 h2;obtain⟨bt,bd⟩:=b;simp only at h1 h2;rw [h1,h2]
 let Ax:α->Act->World->Prop:=fun x a' _=>a'=actM (actP { a with defers := [] } ps'.toList (encs x)) asg
 have hassign:∀ (k l:Nat) (pre:List α) (x:α) (W:World) (K:Act->World->Prop),I pre W->(∀ a' W',KeepsFrom w.heap.size W W'->KpF F1 W W'->I pre W'->Ax x a' W'->K a' W') ->
  cg.wpIn (FN.inRound l) k P (Exit.then K (fun _ _ _=>False)) { tmps:=(ps'.zip (encs x).toArray).foldl (fun t (p,v)=>t.setIfInBounds p v) a.tmps,defers := [] } W:=by
  intro k l pre x W K hi hK;rw [hact];exact Zjx (Z3F hok l k) hcg (hK _ _ (KeepsFrom.refl _ _) (KpF.refl _ _) hi rfl)
 have hround:∀ (k l:Nat) (pre:List α) (x:α) (a':Act) (W:World),(∃ r,W.heap[l]?=some (.loop r))->I pre W->Ax x a' W->pre.length<M->cb.wpIn (FN.inRound l) k P (ownPostG w.heap.size (KpF F1) I Ix (pre ++ [x]) W) a' W:=by
  rintro k l pre x a' W ⟨r,hl⟩ ⟨z,hB,F,φ,hF,s⟩ rfl hlen;have s3:=(s.enter.params (ps:=ps'.toList) (vs:=encs x) hpl).moves hal (he2 x);have hlo2:LoopOk (FN.inRound l) (Ctx.apart (heapL (HL z)) φ F W C.nt):=by
   intro l' hl';obtain rfl:l=l':=by simpa [Fence.inRound] using hl'
   refine⟨⟨r,hl⟩,fun hg=>?_⟩;rcases (s.owned hg).2 with⟨cells,t,hc⟩|⟨es,t,hc⟩
   . rw [hl] at hc; cases hc
   . rw [hl] at hc; cases hc
  refine wpIn_mono (round _ (ZeQ s.free) pre x z hB hlen hmx (FN.inRound l) k ⟨Z3F hok l k,hlo2⟩ cb hcb _ W ⟨F,φ,s3⟩) ?_;rintro ex a3 W3 ⟨n',e',h',⟨hex,z',ρ,hB',hρ,hinj,hEq,hHq⟩,F',φ',s4⟩;obtain ⟨φ'',s5⟩ := (s.back s4).ren ρ hEq.mem hHq.mem hinj hdom hm hρ;have hF':∀ x v,F1 x=some v->F' x=some v:=fun x v hx=>s4.ext x v (hF x v hx);rcases hex with rfl|rfl|⟨id,rfl⟩
  . exact ⟨s.apart_keeps s4 (hnm' z) _,s.apart_kp s4 hF,z',hB',F',φ'',hF',s5⟩
  . exact ⟨s.apart_keeps s4 (hnm' z) _,.ret,z',.inl ⟨rfl,rfl⟩,hB',F',φ'',s5⟩
  . exact ⟨s.apart_keeps s4 (hnm' z) _,.exit id,z',.inr ⟨id,rfl,rfl⟩,hB',F',φ'',s5⟩
 have hKb:∀ (W:World) (l:Nat) (o o':Obj),w.heap.size<=l->W.heap[l]?=some o->o.isCells=false->o.isWalk=false->KpF F1 W (W.putObj l o'):=fun W l o o' _ hl ho _=>KpF.grown (grownBy_putObj' W l o') fun r hr=>by cases hr; exact⟨o,hl,ho⟩
 have hps:∀ x,((encs x).toArray).size=ps'.size:=fun x=>by have:=henc x; simpa using this
 have hfin:∀ (a':Act) (c:Code) (ex:Exit) (W:World),((c=.ret/\ex=.ret) \/ ∃ id,c=.exit id/\ex=.exit id)->PostA C Q ex a' W->∀ k,c.wpIn FN k P (PostA C Q) a' W:=by
  rintro a' c ex W (⟨rfl,rfl⟩|⟨id,rfl,rfl⟩) hq k
  . exact wpIn_ret hq
  . exact wpIn_exit hq
 refine ZgI hok.depth (m+1) ?_;cases hro:FN.round with
 | none =>
   have hnew:∀ (D:Nat) {W:World} {F:Froz} {φ:Locs} {hh:Heap},w.heap.size<=D->W.heap[D]?=some (.deferred (some []))->St' C (fun i=>N<=i) (envL L) hh F φ a W->St' C (fun i=>N<=i) (envL L) hh F φ { a with defers:={ target:=.collected D,args := #[] } :: a.defers } W:=by
    intro D W F φ hh hD hd s;refine s.turned (World.grownBy_refl W) (fun r hr=>by cases hr) (.inr fun r es t hr=>by cases hr) rfl ⟨List.nodup_cons.2 ⟨fun hin=>?_,s.marks.nd⟩,fun d hd'=>?_⟩
    . have:=hmk _ hin D rfl; omega
    . rcases List.mem_cons.1 hd' with rfl | hd'
      . exact⟨D,rfl,Y03 s1.size hD,hd⟩
      . exact s.marks.all d hd'
   refine wpIn_rangeFunc_ownH hro (by omega) hlb (hok.fn g) eg (hcon' _) (fun h k=>h.trans k) hKb (Below.refl _ _) hps I Ix hI hIx hI0 Ax (fun x a' _ W W' row h _ _=>h) (fun l=>hassign _ l) (fun l pre x a' W _ hl hi hx hlen=>hround _ l pre x a' W hl hi hx hlen) ?_ ?_
   . rintro D xs W hD hS ⟨z, hB, F, φ, _, s⟩ hd;exact⟨N,_,_,done xs z hS hB,F,φ,hnew D hD hd s⟩
   . rintro D c pre W hD hS ⟨ex, z, hcx, hB, F, φ, s⟩ hd;refine hfin _ c ex W hcx ⟨N,_,_,stop ex pre z hS hB ?_,F,φ,hnew D hD hd s⟩ _;rcases hcx with⟨_,h⟩|⟨id,_,h⟩
     . exact .inl h
     . exact .inr ⟨id,h⟩
 | some l₀ =>
   obtain⟨⟨r₀,hr₀⟩,hg₀⟩:=hlo l₀ hro;have hw₀:w.heap[l₀]?=some (.loop r₀):=(s1.kept l₀ (Array.getElem?_eq_some_iff.1 hr₀).1 hg₀).trans hr₀;refine wpIn_rangeFunc_ownN hro hw₀ (by omega) hlb (hok.fn g) eg (hcon' _) (fun h k=>h.trans k) hKb (Below.refl _ _) hps I Ix hI hIx hI0 Ax (fun x a' _ W W' row h _ _=>h) (fun l=>hassign _ l) (fun l pre x a' W _ hl hi hx hlen=>hround _ l pre x a' W hl hi hx hlen) ?_ ?_
   . rintro xs W hS ⟨z, hB, F, φ, _, s⟩;exact⟨N,_,_,done xs z hS hB,F,φ,s⟩
   . rintro c pre W hS ⟨ex, z, hcx, hB, F, φ, s⟩;refine hfin _ c ex W hcx ⟨N,_,_,stop ex pre z hS hB ?_,F,φ,s⟩ _;rcases hcx with⟨_,h⟩|⟨id,_,h⟩
     . exact .inl h
     . exact .inr ⟨id,h⟩
end
end
end Go.Proofs.YtmnbbggaoembeaaGreatDoor
