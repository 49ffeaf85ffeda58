/-
  The program's functions in the calculus' terms, printed by program. No statement of the seat is proved here.
-/
import Derived.Test.YtelcpkjclcimbaaIre
import Derived.Test.YtelcpkjclcimbaaChecked
import Derived.KernelRfl
namespace Go.Proofs.Ytelcpkjclcimbaa
set_option maxRecDepth 100000
theorem mixed : Try.prog.follows .mixedOrders = true := by kernel_rfl

/-- gosem.cut.init -/
def ir2 : ACode :=
  (.region [
    ⟨(some 0), .call (.func 1) [], none⟩])
theorem ok2 : FnOk Try.prog 2 1 ir2 [] := fnOk_of mixed Try.func2 (by kernel_rfl) Try.ntmps2 (by kernel_rfl) (by kernel_rfl)

/-- arbac/arbaclaw20.MeaningHolds -/
def ir3 : ACode :=
  (.seq (.region [
    ⟨(some 5), .box (.tmp 2), none⟩, 
    ⟨(some 6), .mov (.const (.bool false)), none⟩])
  (.seq (.seq (.region [
    ⟨(some 8), .call (.func 6) [], none⟩, 
    ⟨(some 9), .una .not (.tmp 8), none⟩])
  (.cond (.tmp 9)
    (.seq (.region [
      ⟨(some 6), .mov (.const (.bool false)), none⟩])
    .ret)
    .skip))
  (.seq (.region [
    ⟨(some 10), .mov (.tmp 0), none⟩, 
    ⟨(some 11), .mov (.tmp 1), none⟩, 
    ⟨(some 12), .bin .rem .num (.tmp 11) (.const (.int .u8 3)), none⟩, 
    ⟨(some 13), .conv .i64 (.tmp 12), none⟩, 
    ⟨(some 14), .bin .add .num (.const (.int .i64 1)) (.tmp 13), none⟩, 
    ⟨(some 15), .call (.func 7) [(.tmp 10), (.tmp 14), (.const (.int .i64 6))], none⟩, 
    ⟨(some 7), .alloc [(.int .i64 0), (.int .i64 0), (.slice none 0 0), (.slice none 0 0)], none⟩, 
    ⟨none, .store 4 (.tmp 7) (.tmp 15), none⟩])
  (.seq (.draw [
    ⟨0, ⟨(some 16), .load true 4 (.tmp 7), none⟩, 0, false, false⟩, 
    ⟨1, ⟨(some 17), .call (.func 9) [(.tmp 16)], none⟩, 1, false, false⟩, 
    ⟨2, ⟨(some 18), .faddr 0 (.tmp 5), none⟩, 0, false, false⟩, 
    ⟨3, ⟨(some 19), .load false 1 (.tmp 18), none⟩, 4, false, false⟩, 
    ⟨4, ⟨(some 20), .call (.func 10) [(.tmp 19)], none⟩, 15, false, false⟩, 
    ⟨5, ⟨(some 21), .faddr 1 (.tmp 5), none⟩, 0, false, false⟩, 
    ⟨6, ⟨(some 22), .load false 1 (.tmp 21), none⟩, 32, false, false⟩, 
    ⟨7, ⟨(some 23), .call (.func 8) [(.tmp 17), (.tmp 20), (.tmp 22)], none⟩, 127, false, false⟩, 
    ⟨8, ⟨(some 24), .load true 4 (.tmp 7), none⟩, 0, false, false⟩, 
    ⟨9, ⟨(some 25), .faddr 0 (.tmp 5), none⟩, 0, false, false⟩, 
    ⟨10, ⟨(some 26), .load false 1 (.tmp 25), none⟩, 512, false, false⟩, 
    ⟨11, ⟨(some 27), .faddr 1 (.tmp 5), none⟩, 0, false, false⟩, 
    ⟨12, ⟨(some 28), .load false 1 (.tmp 27), none⟩, 2048, false, false⟩, 
    ⟨13, ⟨(some 29), .call (.func 11) [(.tmp 24), (.tmp 26), (.tmp 28)], none⟩, 8191, true, false⟩, 
    ⟨14, ⟨(some 30), .bin .eql .bool (.tmp 23) (.tmp 29), none⟩, 16383, true, false⟩, 
    ⟨15, ⟨(some 6), .mov (.tmp 30), none⟩, 32767, true, false⟩])
  .ret))))
theorem ok3 : FnOk Try.prog 3 31 ir3 [.tmp 6] := fnOk_of mixed Try.func3 (by kernel_rfl) Try.ntmps3 (by kernel_rfl) (by kernel_rfl)

/-- arbac/arbaclaw20.MeaningForms -/
def ir4 : ACode :=
  (.seq (.region [
    ⟨(some 3), .box (.tmp 1), none⟩, 
    ⟨(some 4), .mov (.const (.bool false)), none⟩])
  (.seq (.seq (.region [
    ⟨(some 6), .call (.func 6) [], none⟩, 
    ⟨(some 7), .una .not (.tmp 6), none⟩])
  (.cond (.tmp 7)
    (.seq (.region [
      ⟨(some 4), .mov (.const (.bool false)), none⟩])
    .ret)
    .skip))
  (.seq (.region [
    ⟨(some 8), .mov (.tmp 0), none⟩, 
    ⟨(some 9), .call (.func 12) [(.tmp 8)], none⟩, 
    ⟨(some 5), .alloc [(.int .i64 0), (.int .i64 0), (.slice none 0 0), (.slice none 0 0)], none⟩, 
    ⟨none, .store 4 (.tmp 5) (.tmp 9), none⟩])
  (.seq (.draw [
    ⟨0, ⟨(some 10), .load true 4 (.tmp 5), none⟩, 0, false, false⟩, 
    ⟨1, ⟨(some 11), .call (.func 9) [(.tmp 10)], none⟩, 1, false, false⟩, 
    ⟨2, ⟨(some 12), .faddr 0 (.tmp 3), none⟩, 0, false, false⟩, 
    ⟨3, ⟨(some 13), .load false 1 (.tmp 12), none⟩, 4, false, false⟩, 
    ⟨4, ⟨(some 14), .call (.func 10) [(.tmp 13)], none⟩, 15, false, false⟩, 
    ⟨5, ⟨(some 15), .faddr 1 (.tmp 3), none⟩, 0, false, false⟩, 
    ⟨6, ⟨(some 16), .load false 1 (.tmp 15), none⟩, 32, false, false⟩, 
    ⟨7, ⟨(some 17), .call (.func 8) [(.tmp 11), (.tmp 14), (.tmp 16)], none⟩, 127, false, false⟩, 
    ⟨8, ⟨(some 18), .load true 4 (.tmp 5), none⟩, 0, false, false⟩, 
    ⟨9, ⟨(some 19), .faddr 0 (.tmp 3), none⟩, 0, false, false⟩, 
    ⟨10, ⟨(some 20), .load false 1 (.tmp 19), none⟩, 512, false, false⟩, 
    ⟨11, ⟨(some 21), .faddr 1 (.tmp 3), none⟩, 0, false, false⟩, 
    ⟨12, ⟨(some 22), .load false 1 (.tmp 21), none⟩, 2048, false, false⟩, 
    ⟨13, ⟨(some 23), .call (.func 11) [(.tmp 18), (.tmp 20), (.tmp 22)], none⟩, 8191, true, false⟩, 
    ⟨14, ⟨(some 24), .bin .eql .bool (.tmp 17) (.tmp 23), none⟩, 16383, true, false⟩, 
    ⟨15, ⟨(some 4), .mov (.tmp 24), none⟩, 32767, true, false⟩])
  .ret))))
theorem ok4 : FnOk Try.prog 4 25 ir4 [.tmp 4] := fnOk_of mixed Try.func4 (by kernel_rfl) Try.ntmps4 (by kernel_rfl) (by kernel_rfl)

/-- arbac/arbaclaw20.MeaningLogic -/
def ir5 : ACode :=
  (.seq (.region [
    ⟨(some 5), .box (.tmp 2), none⟩, 
    ⟨(some 6), .mov (.const (.bool false)), none⟩])
  (.seq (.seq (.region [
    ⟨(some 14), .call (.func 6) [], none⟩, 
    ⟨(some 15), .una .not (.tmp 14), none⟩])
  (.cond (.tmp 15)
    (.seq (.region [
      ⟨(some 6), .mov (.const (.bool false)), none⟩])
    .ret)
    .skip))
  (.seq (.region [
    ⟨(some 16), .mov (.tmp 0), none⟩, 
    ⟨(some 17), .call (.func 7) [(.tmp 16), (.const (.int .i64 1)), (.const (.int .i64 6))], none⟩, 
    ⟨(some 18), .call (.func 9) [(.tmp 17)], none⟩, 
    ⟨(some 19), .mov (.tmp 1), none⟩, 
    ⟨(some 20), .call (.func 7) [(.tmp 19), (.const (.int .i64 1)), (.const (.int .i64 6))], none⟩, 
    ⟨(some 21), .call (.func 9) [(.tmp 20)], none⟩, 
    ⟨(some 7), .alloc [(.int .u8 0), (.int .i64 0), (.slice none 0 0), (.slice none 0 0)], none⟩, 
    ⟨(some 8), .alloc [(.int .u8 0), (.int .i64 0), (.slice none 0 0), (.slice none 0 0)], none⟩, 
    ⟨none, .store 4 (.tmp 7) (.tmp 18), none⟩, 
    ⟨none, .store 4 (.tmp 8) (.tmp 21), none⟩])
  (.seq (.region [
    ⟨(some 22), .faddr 0 (.tmp 5), none⟩, 
    ⟨(some 23), .load false 1 (.tmp 22), none⟩, 
    ⟨(some 24), .call (.func 10) [(.tmp 23)], none⟩, 
    ⟨(some 9), .alloc [(.slice none 0 0)], none⟩, 
    ⟨none, .store 1 (.tmp 9) (.tmp 24), none⟩])
  (.seq (.region [
    ⟨(some 10), .mov (.func 13), none⟩])
  (.seq (.region [
    ⟨(some 11), .mov (.func 14), none⟩])
  (.seq (.draw [
    ⟨0, ⟨(some 25), .load true 4 (.tmp 7), none⟩, 0, false, false⟩, 
    ⟨1, ⟨(some 26), .load true 1 (.tmp 9), none⟩, 0, false, false⟩, 
    ⟨2, ⟨(some 27), .call (.func 8) [(.tmp 25), (.tmp 26), (.const (.slice none 0 0))], none⟩, 3, false, false⟩, 
    ⟨3, ⟨(some 28), .load true 4 (.tmp 8), none⟩, 0, false, false⟩, 
    ⟨4, ⟨(some 29), .load true 1 (.tmp 9), none⟩, 0, false, false⟩, 
    ⟨5, ⟨(some 30), .call (.func 8) [(.tmp 28), (.tmp 29), (.const (.slice none 0 0))], none⟩, 31, true, false⟩, 
    ⟨6, ⟨(some 12), .mov (.tmp 27), none⟩, 63, true, false⟩, 
    ⟨7, ⟨(some 13), .mov (.tmp 30), none⟩, 127, true, false⟩])
  (.seq (.draw [
    ⟨0, ⟨(some 31), .mov (.tmp 11), none⟩, 0, false, false⟩, 
    ⟨1, ⟨(some 32), .load true 4 (.tmp 7), none⟩, 0, false, false⟩, 
    ⟨2, ⟨(some 33), .call (.tmp 31) [(.tmp 32)], none⟩, 3, false, false⟩, 
    ⟨3, ⟨(some 34), .load true 1 (.tmp 9), none⟩, 0, false, false⟩, 
    ⟨4, ⟨(some 35), .call (.func 8) [(.tmp 33), (.tmp 34), (.const (.slice none 0 0))], none⟩, 15, true, false⟩, 
    ⟨5, ⟨(some 36), .mov (.tmp 12), none⟩, 0, false, false⟩, 
    ⟨6, ⟨(some 37), .una .not (.tmp 36), none⟩, 32, false, false⟩, 
    ⟨7, ⟨(some 38), .bin .eql .bool (.tmp 35) (.tmp 37), none⟩, 127, true, false⟩, 
    ⟨8, ⟨(some 39), .mov (.tmp 38), none⟩, 255, true, false⟩, 
    ⟨9, ⟨(some 40), .mov (.tmp 10), (some (39, true))⟩, 511, false, false⟩, 
    ⟨10, ⟨(some 41), .load true 4 (.tmp 7), (some (39, true))⟩, 511, false, false⟩, 
    ⟨11, ⟨(some 42), .load true 4 (.tmp 8), (some (39, true))⟩, 511, false, false⟩, 
    ⟨12, ⟨(some 43), .call (.tmp 40) [(.const (.int .u8 8)), (.tmp 41), (.tmp 42)], (some (39, true))⟩, 4095, false, false⟩, 
    ⟨13, ⟨(some 44), .load true 1 (.tmp 9), (some (39, true))⟩, 511, false, false⟩, 
    ⟨14, ⟨(some 45), .call (.func 8) [(.tmp 43), (.tmp 44), (.const (.slice none 0 0))], (some (39, true))⟩, 16383, true, false⟩, 
    ⟨15, ⟨(some 46), .mov (.tmp 12), (some (39, true))⟩, 511, false, false⟩, 
    ⟨16, ⟨(some 47), .mov (.tmp 46), (some (39, true))⟩, 65535, true, false⟩, 
    ⟨17, ⟨(some 48), .mov (.tmp 13), (some (47, true))⟩, 131071, true, false⟩, 
    ⟨18, ⟨(some 49), .pick (.tmp 47) (.tmp 48) (.const (.bool false)), (some (39, true))⟩, 262143, true, false⟩, 
    ⟨19, ⟨(some 50), .bin .eql .bool (.tmp 45) (.tmp 49), (some (39, true))⟩, 524287, true, false⟩, 
    ⟨20, ⟨(some 51), .pick (.tmp 39) (.tmp 50) (.const (.bool false)), none⟩, 1048575, true, false⟩, 
    ⟨21, ⟨(some 52), .mov (.tmp 51), none⟩, 2097151, true, false⟩, 
    ⟨22, ⟨(some 53), .mov (.tmp 11), (some (52, true))⟩, 4194303, false, false⟩, 
    ⟨23, ⟨(some 54), .mov (.tmp 10), (some (52, true))⟩, 4194303, false, false⟩, 
    ⟨24, ⟨(some 55), .load true 4 (.tmp 7), (some (52, true))⟩, 4194303, false, false⟩, 
    ⟨25, ⟨(some 56), .load true 4 (.tmp 8), (some (52, true))⟩, 4194303, false, false⟩, 
    ⟨26, ⟨(some 57), .call (.tmp 54) [(.const (.int .u8 9)), (.tmp 55), (.tmp 56)], (some (52, true))⟩, 62914559, false, false⟩, 
    ⟨27, ⟨(some 58), .call (.tmp 53) [(.tmp 57)], (some (52, true))⟩, 134217727, false, false⟩, 
    ⟨28, ⟨(some 59), .load true 1 (.tmp 9), (some (52, true))⟩, 4194303, false, false⟩, 
    ⟨29, ⟨(some 60), .call (.func 8) [(.tmp 58), (.tmp 59), (.const (.slice none 0 0))], (some (52, true))⟩, 536870911, true, false⟩, 
    ⟨30, ⟨(some 61), .mov (.tmp 12), (some (52, true))⟩, 4194303, false, false⟩, 
    ⟨31, ⟨(some 62), .una .not (.tmp 61), (some (52, true))⟩, 1077936127, false, false⟩, 
    ⟨32, ⟨(some 63), .mov (.tmp 62), (some (52, true))⟩, 4294967295, true, false⟩, 
    ⟨33, ⟨(some 64), .mov (.tmp 13), (some (63, true))⟩, 8589934591, true, false⟩, 
    ⟨34, ⟨(some 65), .una .not (.tmp 64), (some (63, true))⟩, 17179869183, true, false⟩, 
    ⟨35, ⟨(some 66), .pick (.tmp 63) (.tmp 65) (.const (.bool false)), (some (52, true))⟩, 34359738367, true, false⟩, 
    ⟨36, ⟨(some 67), .bin .eql .bool (.tmp 60) (.tmp 66), (some (52, true))⟩, 68719476735, true, false⟩, 
    ⟨37, ⟨(some 68), .pick (.tmp 52) (.tmp 67) (.const (.bool false)), none⟩, 137438953471, true, false⟩, 
    ⟨38, ⟨(some 69), .mov (.tmp 68), none⟩, 274877906943, true, false⟩, 
    ⟨39, ⟨(some 70), .mov (.tmp 10), (some (69, true))⟩, 549755813887, false, false⟩, 
    ⟨40, ⟨(some 71), .load true 4 (.tmp 7), (some (69, true))⟩, 549755813887, false, false⟩, 
    ⟨41, ⟨(some 72), .load true 4 (.tmp 8), (some (69, true))⟩, 549755813887, false, false⟩, 
    ⟨42, ⟨(some 73), .call (.tmp 70) [(.const (.int .u8 10)), (.tmp 71), (.tmp 72)], (some (69, true))⟩, 4398046511103, false, false⟩, 
    ⟨43, ⟨(some 74), .load true 1 (.tmp 9), (some (69, true))⟩, 549755813887, false, false⟩, 
    ⟨44, ⟨(some 75), .call (.func 8) [(.tmp 73), (.tmp 74), (.const (.slice none 0 0))], (some (69, true))⟩, 17592186044415, true, false⟩, 
    ⟨45, ⟨(some 76), .mov (.tmp 12), (some (69, true))⟩, 549755813887, false, false⟩, 
    ⟨46, ⟨(some 77), .una .not (.tmp 76), (some (69, true))⟩, 35734127902719, false, false⟩, 
    ⟨47, ⟨(some 78), .mov (.tmp 77), (some (69, true))⟩, 140737488355327, true, false⟩, 
    ⟨48, ⟨(some 79), .mov (.tmp 13), (some (78, false))⟩, 281474976710655, true, false⟩, 
    ⟨49, ⟨(some 80), .pick (.tmp 78) (.const (.bool true)) (.tmp 79), (some (69, true))⟩, 562949953421311, true, false⟩, 
    ⟨50, ⟨(some 81), .bin .eql .bool (.tmp 75) (.tmp 80), (some (69, true))⟩, 1125899906842623, true, false⟩, 
    ⟨51, ⟨(some 82), .pick (.tmp 69) (.tmp 81) (.const (.bool false)), none⟩, 2251799813685247, true, false⟩, 
    ⟨52, ⟨(some 83), .mov (.tmp 82), none⟩, 4503599627370495, true, false⟩, 
    ⟨53, ⟨(some 84), .mov (.tmp 10), (some (83, true))⟩, 9007199254740991, false, false⟩, 
    ⟨54, ⟨(some 85), .mov (.tmp 11), (some (83, true))⟩, 9007199254740991, false, false⟩, 
    ⟨55, ⟨(some 86), .load true 4 (.tmp 7), (some (83, true))⟩, 9007199254740991, false, false⟩, 
    ⟨56, ⟨(some 87), .call (.tmp 85) [(.tmp 86)], (some (83, true))⟩, 63050394783186943, false, false⟩, 
    ⟨57, ⟨(some 88), .load true 4 (.tmp 8), (some (83, true))⟩, 9007199254740991, false, false⟩, 
    ⟨58, ⟨(some 89), .call (.tmp 84) [(.const (.int .u8 9)), (.tmp 87), (.tmp 88)], (some (83, true))⟩, 288230376151711743, false, false⟩, 
    ⟨59, ⟨(some 90), .load true 1 (.tmp 9), (some (83, true))⟩, 9007199254740991, false, false⟩, 
    ⟨60, ⟨(some 91), .call (.func 8) [(.tmp 89), (.tmp 90), (.const (.slice none 0 0))], (some (83, true))⟩, 1152921504606846975, true, false⟩, 
    ⟨61, ⟨(some 92), .mov (.tmp 12), (some (83, true))⟩, 9007199254740991, false, false⟩, 
    ⟨62, ⟨(some 93), .una .not (.tmp 92), (some (83, true))⟩, 2314850208468434943, false, false⟩, 
    ⟨63, ⟨(some 94), .mov (.tmp 93), (some (83, true))⟩, 9223372036854775807, true, false⟩, 
    ⟨64, ⟨(some 95), .mov (.tmp 13), (some (94, false))⟩, 18446744073709551615, true, false⟩, 
    ⟨65, ⟨(some 96), .pick (.tmp 94) (.const (.bool true)) (.tmp 95), (some (83, true))⟩, 36893488147419103231, true, false⟩, 
    ⟨66, ⟨(some 97), .bin .eql .bool (.tmp 91) (.tmp 96), (some (83, true))⟩, 73786976294838206463, true, false⟩, 
    ⟨67, ⟨(some 98), .pick (.tmp 83) (.tmp 97) (.const (.bool false)), none⟩, 147573952589676412927, true, false⟩, 
    ⟨68, ⟨(some 6), .mov (.tmp 98), none⟩, 295147905179352825855, true, false⟩])
  .ret))))))))
theorem ok5 : FnOk Try.prog 5 99 ir5 [.tmp 6] := fnOk_of mixed Try.func5 (by kernel_rfl) Try.ntmps5 (by kernel_rfl) (by kernel_rfl)

/-- arbac/arbaclaw20.awake -/
def ir6 : ACode :=
  (.seq (.region [
    ⟨(some 0), .mov (.const (.bool false)), none⟩])
  (.seq (.region [
    ⟨(some 2), .call (.func 15) [], none⟩, 
    ⟨(some 1), .mov (.tmp 2), none⟩])
  (.seq (.draw [
    ⟨0, ⟨(some 3), .mov (.tmp 1), none⟩, 0, true, false⟩, 
    ⟨1, ⟨(some 4), .iaddr 4 (.tmp 3) (.const (.int .i64 0)), none⟩, 1, true, false⟩, 
    ⟨2, ⟨(some 5), .load true 4 (.tmp 4), none⟩, 3, true, false⟩, 
    ⟨3, ⟨(some 6), .bslice [(.int .i64 0)] 2 [(0, (.const (.int .i64 1))), (1, (.const (.int .i64 2)))], none⟩, 0, false, false⟩, 
    ⟨4, ⟨(some 7), .call (.func 16) [(.tmp 6)], none⟩, 8, false, false⟩, 
    ⟨5, ⟨(some 8), .call (.func 8) [(.tmp 5), (.tmp 7), (.const (.slice none 0 0))], none⟩, 31, true, false⟩, 
    ⟨6, ⟨(some 9), .una .not (.tmp 8), none⟩, 63, true, false⟩, 
    ⟨7, ⟨(some 10), .mov (.tmp 9), none⟩, 127, true, false⟩, 
    ⟨8, ⟨(some 11), .mov (.tmp 1), (some (10, true))⟩, 255, true, false⟩, 
    ⟨9, ⟨(some 12), .iaddr 4 (.tmp 11) (.const (.int .i64 0)), (some (10, true))⟩, 511, true, false⟩, 
    ⟨10, ⟨(some 13), .load true 4 (.tmp 12), (some (10, true))⟩, 1023, true, false⟩, 
    ⟨11, ⟨(some 14), .bslice [(.int .i64 0)] 2 [(0, (.const (.int .i64 1))), (1, (.const (.int .i64 3)))], (some (10, true))⟩, 255, false, false⟩, 
    ⟨12, ⟨(some 15), .call (.func 16) [(.tmp 14)], (some (10, true))⟩, 2303, false, false⟩, 
    ⟨13, ⟨(some 16), .call (.func 8) [(.tmp 13), (.tmp 15), (.const (.slice none 0 0))], (some (10, true))⟩, 8191, true, false⟩, 
    ⟨14, ⟨(some 17), .pick (.tmp 10) (.tmp 16) (.const (.bool false)), none⟩, 16383, true, false⟩, 
    ⟨15, ⟨(some 18), .mov (.tmp 17), none⟩, 32767, true, false⟩, 
    ⟨16, ⟨(some 19), .mov (.tmp 1), (some (18, true))⟩, 65535, true, false⟩, 
    ⟨17, ⟨(some 20), .iaddr 4 (.tmp 19) (.const (.int .i64 1)), (some (18, true))⟩, 131071, true, false⟩, 
    ⟨18, ⟨(some 21), .load true 4 (.tmp 20), (some (18, true))⟩, 262143, true, false⟩, 
    ⟨19, ⟨(some 22), .bslice [(.int .i64 0)] 1 [(0, (.const (.int .i64 1)))], (some (18, true))⟩, 65535, false, false⟩, 
    ⟨20, ⟨(some 23), .call (.func 16) [(.tmp 22)], (some (18, true))⟩, 589823, false, false⟩, 
    ⟨21, ⟨(some 24), .call (.func 8) [(.tmp 21), (.tmp 23), (.const (.slice none 0 0))], (some (18, true))⟩, 2097151, true, false⟩, 
    ⟨22, ⟨(some 25), .una .not (.tmp 24), (some (18, true))⟩, 4194303, true, false⟩, 
    ⟨23, ⟨(some 26), .pick (.tmp 18) (.tmp 25) (.const (.bool false)), none⟩, 8388607, true, false⟩, 
    ⟨24, ⟨(some 27), .mov (.tmp 26), none⟩, 16777215, true, false⟩, 
    ⟨25, ⟨(some 28), .mov (.tmp 1), (some (27, true))⟩, 33554431, true, false⟩, 
    ⟨26, ⟨(some 29), .iaddr 4 (.tmp 28) (.const (.int .i64 1)), (some (27, true))⟩, 67108863, true, false⟩, 
    ⟨27, ⟨(some 30), .load true 4 (.tmp 29), (some (27, true))⟩, 134217727, true, false⟩, 
    ⟨28, ⟨(some 31), .call (.func 16) [(.const (.slice none 0 0))], (some (27, true))⟩, 33554431, false, false⟩, 
    ⟨29, ⟨(some 32), .call (.func 8) [(.tmp 30), (.tmp 31), (.const (.slice none 0 0))], (some (27, true))⟩, 536870911, true, false⟩, 
    ⟨30, ⟨(some 33), .pick (.tmp 27) (.tmp 32) (.const (.bool false)), none⟩, 1073741823, true, false⟩, 
    ⟨31, ⟨(some 34), .mov (.tmp 33), none⟩, 2147483647, true, false⟩, 
    ⟨32, ⟨(some 35), .mov (.tmp 1), (some (34, true))⟩, 4294967295, true, false⟩, 
    ⟨33, ⟨(some 36), .iaddr 4 (.tmp 35) (.const (.int .i64 2)), (some (34, true))⟩, 8589934591, true, false⟩, 
    ⟨34, ⟨(some 37), .load true 4 (.tmp 36), (some (34, true))⟩, 17179869183, true, false⟩, 
    ⟨35, ⟨(some 38), .call (.func 16) [(.const (.slice none 0 0))], (some (34, true))⟩, 4294967295, false, false⟩, 
    ⟨36, ⟨(some 39), .bslice [(.int .i64 0)] 3 [(0, (.const (.int .i64 0))), (1, (.const (.int .i64 1))), (2, (.const (.int .i64 1)))], (some (34, true))⟩, 4294967295, false, false⟩, 
    ⟨37, ⟨(some 40), .call (.func 8) [(.tmp 37), (.tmp 38), (.tmp 39)], (some (34, true))⟩, 137438953471, true, false⟩, 
    ⟨38, ⟨(some 41), .pick (.tmp 34) (.tmp 40) (.const (.bool false)), none⟩, 274877906943, true, false⟩, 
    ⟨39, ⟨(some 0), .mov (.tmp 41), none⟩, 549755813887, true, false⟩])
  .ret)))
theorem ok6 : FnOk Try.prog 6 42 ir6 [.tmp 0] := fnOk_of mixed Try.func6 (by kernel_rfl) Try.ntmps6 (by kernel_rfl) (by kernel_rfl)

/-- arbac/arbacref18.Make -/
def ir7 : ACode :=
  (.seq (.region [
    ⟨(some 6), .alloc [(.int .i64 0), (.int .i64 0), (.slice none 0 0), (.slice none 0 0)], none⟩])
  (.seq (.region [
    ⟨(some 8), .mov (.tmp 0), none⟩, 
    ⟨(some 9), .build [(.slice none 0 0), (.int .i64 0)] [(0, 1, (.tmp 8))], none⟩, 
    ⟨(some 10), .box (.tmp 9), none⟩, 
    ⟨(some 7), .mov (.tmp 10), none⟩])
  (.seq (.region [
    ⟨(some 11), .mov (.tmp 7), none⟩, 
    ⟨(some 12), .mov (.tmp 1), none⟩, 
    ⟨(some 13), .mov (.tmp 2), none⟩, 
    ⟨(some 14), .call (.func 17) [(.tmp 11), (.const (.int .i64 4)), (.tmp 12), (.tmp 13)], none⟩, 
    ⟨none, .store 4 (.tmp 6) (.tmp 14), none⟩])
  .ret)))
theorem ok7 : FnOk Try.prog 7 15 ir7 [.cell 6 true 4] := fnOk_of mixed Try.func7 (by kernel_rfl) Try.ntmps7 (by kernel_rfl) (by kernel_rfl)

/-- arbac/meaning.Holds -/
def ir8 : ACode :=
  (.seq (.region [
    ⟨(some 3), .box (.tmp 0), none⟩, 
    ⟨(some 4), .box (.tmp 1), none⟩, 
    ⟨(some 6), .mov (.const (.bool false)), none⟩])
  (.seq (.region [
    ⟨(some 10), .load true 4 (.tmp 3), none⟩, 
    ⟨(some 11), .call (.func 18) [(.tmp 10)], none⟩, 
    ⟨(some 9), .mov (.tmp 11), none⟩, 
    ⟨(some 12), .extract (.tmp 9) 0, none⟩, 
    ⟨(some 13), .extract (.tmp 9) 1, none⟩, 
    ⟨(some 7), .mov (.tmp 12), none⟩, 
    ⟨(some 8), .mov (.tmp 13), none⟩])
  (.seq (.region [
    ⟨(some 14), .mov (.tmp 8), none⟩, 
    ⟨(some 15), .bin .eql .num (.tmp 14) (.const (.int .i64 0)), none⟩, 
    ⟨(some 16), .mov (.tmp 15), none⟩, 
    ⟨(some 17), .mov (.tmp 7), (some (16, true))⟩, 
    ⟨(some 18), .bin .eql .num (.tmp 17) (.const (.int .u8 1)), (some (16, true))⟩, 
    ⟨(some 19), .pick (.tmp 16) (.tmp 18) (.const (.bool false)), none⟩, 
    ⟨(some 20), .mov (.tmp 19), none⟩, 
    ⟨(some 21), .load true 1 (.tmp 4), (some (20, true))⟩, 
    ⟨(some 22), .mov (.tmp 2), (some (20, true))⟩, 
    ⟨(some 23), .build [(.slice none 0 0), (.slice none 0 0)] [(0, 1, (.tmp 21)), (1, 1, (.tmp 22))], (some (20, true))⟩, 
    ⟨(some 24), .load true 4 (.tmp 3), (some (20, true))⟩, 
    ⟨(some 25), .call (.func 19) [(.tmp 23), (.tmp 24)], (some (20, true))⟩, 
    ⟨(some 26), .bin .eql .num (.tmp 25) (.const (.int .i64 1)), (some (20, true))⟩, 
    ⟨(some 27), .pick (.tmp 20) (.tmp 26) (.const (.bool false)), none⟩, 
    ⟨(some 6), .mov (.tmp 27), none⟩])
  .ret)))
theorem ok8 : FnOk Try.prog 8 28 ir8 [.tmp 6] := fnOk_of mixed Try.func8 (by kernel_rfl) Try.ntmps8 (by kernel_rfl) (by kernel_rfl)

/-- arbac/arbaclaw20.Formula -/
def ir9 : ACode :=
  (.seq (.region [
    ⟨(some 1), .box (.tmp 0), none⟩, 
    ⟨(some 2), .alloc [(.int .u8 0), (.int .i64 0), (.slice none 0 0), (.slice none 0 0)], none⟩])
  (.seq (.draw [
    ⟨0, ⟨(some 6), .faddr 0 (.tmp 1), none⟩, 0, false, false⟩, 
    ⟨1, ⟨(some 7), .load false 1 (.tmp 6), none⟩, 1, false, false⟩, 
    ⟨2, ⟨(some 8), .conv .u8 (.tmp 7), none⟩, 3, false, false⟩, 
    ⟨3, ⟨(some 9), .faddr 1 (.tmp 1), none⟩, 0, false, false⟩, 
    ⟨4, ⟨(some 10), .load false 1 (.tmp 9), none⟩, 8, false, false⟩, 
    ⟨5, ⟨(some 11), .bslice [(.int .i64 0)] 0 [], none⟩, 0, false, false⟩, 
    ⟨6, ⟨(some 12), .faddr 2 (.tmp 1), none⟩, 0, false, false⟩, 
    ⟨7, ⟨(some 13), .load false 1 (.tmp 12), none⟩, 64, false, false⟩, 
    ⟨8, ⟨(some 14), .append [(.int .i64 0)] 8 (.tmp 11) (.tmp 13), none⟩, 224, false, false⟩, 
    ⟨9, ⟨(some 15), .build [(.int .u8 0), (.int .i64 0), (.slice none 0 0), (.slice none 0 0)] [(0, 1, (.tmp 8)), (1, 1, (.tmp 10)), (2, 1, (.tmp 14))], none⟩, 511, true, false⟩, 
    ⟨10, ⟨(some 3), .alloc [(.int .u8 0), (.int .i64 0), (.slice none 0 0), (.slice none 0 0)], none⟩, 0, false, false⟩, 
    ⟨11, ⟨none, .store 4 (.tmp 3) (.tmp 15), none⟩, 2047, true, false⟩])
  (.seq (.seq (.region [
    ⟨(some 16), .faddr 3 (.tmp 1), none⟩, 
    ⟨(some 17), .load false 1 (.tmp 16), none⟩, 
    ⟨(some 18), .len (.tmp 17), none⟩, 
    ⟨(some 19), .mov (.const (.int .i64 0)), none⟩])
  (.block 0
    (.loop
      (.seq (.region [
        ⟨(some 20), .bin .lss .num (.tmp 19) (.tmp 18), none⟩])
      (.seq (.cond (.tmp 20)
        .skip
        (.exit 0))
      (.seq (.block 1
        (.seq (.region [
          ⟨(some 21), .iaddr 4 (.tmp 17) (.tmp 19), none⟩, 
          ⟨(some 22), .load true 4 (.tmp 21), none⟩, 
          ⟨(some 5), .alloc [(.int .i64 0), (.int .i64 0), (.slice none 0 0), (.slice none 0 0)], none⟩, 
          ⟨none, .store 4 (.tmp 5) (.tmp 22), none⟩])
        (.draw [
          ⟨0, ⟨(some 23), .faddr 3 (.tmp 3), none⟩, 0, false, false⟩, 
          ⟨1, ⟨(some 24), .load false 1 (.tmp 23), none⟩, 1, false, false⟩, 
          ⟨2, ⟨(some 25), .load true 4 (.tmp 5), none⟩, 0, false, false⟩, 
          ⟨3, ⟨(some 26), .call (.func 9) [(.tmp 25)], none⟩, 4, false, false⟩, 
          ⟨4, ⟨(some 27), .bslice [(.int .u8 0), (.int .i64 0), (.slice none 0 0), (.slice none 0 0)] 1 [(0, (.tmp 26))], none⟩, 12, false, false⟩, 
          ⟨5, ⟨(some 28), .append [(.int .u8 0), (.int .i64 0), (.slice none 0 0), (.slice none 0 0)] 64 (.tmp 24) (.tmp 27), none⟩, 31, true, false⟩, 
          ⟨6, ⟨(some 29), .faddr 3 (.tmp 3), none⟩, 63, true, false⟩, 
          ⟨7, ⟨none, .store 1 (.tmp 29) (.tmp 28), none⟩, 127, true, false⟩])))
      (.region [
        ⟨(some 30), .bin .add .num (.tmp 19) (.const (.int .i64 1)), none⟩, 
        ⟨(some 19), .mov (.tmp 30), none⟩])))))))
  (.seq (.region [
    ⟨(some 31), .load true 4 (.tmp 3), none⟩, 
    ⟨none, .store 4 (.tmp 2) (.tmp 31), none⟩])
  .ret))))
theorem ok9 : FnOk Try.prog 9 32 ir9 [.cell 2 true 4] := fnOk_of mixed Try.func9 (by kernel_rfl) Try.ntmps9 (by kernel_rfl) (by kernel_rfl)

/-- arbac/arbaclaw10.Set -/
def ir10 : ACode :=
  (.seq (.region [
    ⟨(some 2), .alloc [(.slice none 0 0)], none⟩])
  (.seq (.region [
    ⟨(some 5), .call (.func 16) [(.const (.slice none 0 0))], none⟩, 
    ⟨(some 3), .alloc [(.slice none 0 0)], none⟩, 
    ⟨none, .store 1 (.tmp 3) (.tmp 5), none⟩])
  (.seq (.seq (.region [
    ⟨(some 4), .mov (.const (.int .i64 1)), none⟩])
  (.block 0
    (.loop
      (.seq (.seq (.region [
        ⟨(some 6), .mov (.tmp 4), none⟩, 
        ⟨(some 7), .bin .lss .num (.tmp 6) (.const (.int .i64 64)), none⟩])
      (.cond (.tmp 7)
        .skip
        (.exit 0)))
      (.seq (.block 1
        (.seq (.region [
          ⟨(some 10), .mov (.tmp 0), none⟩, 
          ⟨(some 11), .mov (.tmp 4), none⟩, 
          ⟨(some 12), .bin .shr .num (.tmp 10) (.tmp 11), none⟩, 
          ⟨(some 13), .bin .rem .num (.tmp 12) (.const (.int .u64 2)), none⟩, 
          ⟨(some 14), .bin .eql .num (.tmp 13) (.const (.int .u64 1)), none⟩])
        (.cond (.tmp 14)
          (.region [
            ⟨(some 15), .load true 1 (.tmp 3), none⟩, 
            ⟨(some 16), .mov (.tmp 4), none⟩, 
            ⟨(some 17), .call (.func 20) [(.tmp 15), (.tmp 16)], none⟩, 
            ⟨none, .store 1 (.tmp 3) (.tmp 17), none⟩])
          .skip)))
      (.region [
        ⟨(some 8), .mov (.tmp 4), none⟩, 
        ⟨(some 9), .bin .add .num (.tmp 8) (.const (.int .i64 1)), none⟩, 
        ⟨(some 4), .mov (.tmp 9), none⟩]))))))
  (.seq (.region [
    ⟨(some 18), .load true 1 (.tmp 3), none⟩, 
    ⟨none, .store 1 (.tmp 2) (.tmp 18), none⟩])
  .ret))))
theorem ok10 : FnOk Try.prog 10 19 ir10 [.cell 2 true 1] := fnOk_of mixed Try.func10 (by kernel_rfl) Try.ntmps10 (by kernel_rfl) (by kernel_rfl)

/-- arbac/arbacref20.Holds -/
def ir11 : ACode :=
  (.seq (.region [
    ⟨(some 3), .box (.tmp 0), none⟩, 
    ⟨(some 6), .mov (.const (.bool false)), none⟩])
  (.seq (.region [
    ⟨(some 10), .load true 4 (.tmp 3), none⟩, 
    ⟨(some 11), .call (.func 21) [(.tmp 10)], none⟩, 
    ⟨(some 9), .mov (.tmp 11), none⟩, 
    ⟨(some 12), .extract (.tmp 9) 0, none⟩, 
    ⟨(some 13), .extract (.tmp 9) 1, none⟩, 
    ⟨(some 7), .mov (.tmp 12), none⟩, 
    ⟨(some 8), .mov (.tmp 13), none⟩])
  (.seq (.region [
    ⟨(some 14), .mov (.tmp 8), none⟩, 
    ⟨(some 15), .bin .eql .num (.tmp 14) (.const (.int .i64 0)), none⟩, 
    ⟨(some 16), .mov (.tmp 15), none⟩, 
    ⟨(some 17), .mov (.tmp 7), (some (16, true))⟩, 
    ⟨(some 18), .bin .eql .num (.tmp 17) (.const (.int .i64 1)), (some (16, true))⟩, 
    ⟨(some 19), .pick (.tmp 16) (.tmp 18) (.const (.bool false)), none⟩, 
    ⟨(some 20), .mov (.tmp 19), none⟩, 
    ⟨(some 21), .load true 4 (.tmp 3), (some (20, true))⟩, 
    ⟨(some 22), .mov (.tmp 1), (some (20, true))⟩, 
    ⟨(some 23), .mov (.tmp 2), (some (20, true))⟩, 
    ⟨(some 24), .call (.func 22) [(.tmp 21), (.tmp 22), (.tmp 23)], (some (20, true))⟩, 
    ⟨(some 25), .pick (.tmp 20) (.tmp 24) (.const (.bool false)), none⟩, 
    ⟨(some 6), .mov (.tmp 25), none⟩])
  .ret)))
theorem ok11 : FnOk Try.prog 11 26 ir11 [.tmp 6] := fnOk_of mixed Try.func11 (by kernel_rfl) Try.ntmps11 (by kernel_rfl) (by kernel_rfl)

/-- arbac/arbacref18.Build -/
def ir12 : ACode :=
  (.seq (.region [
    ⟨(some 2), .alloc [(.int .i64 0), (.int .i64 0), (.slice none 0 0), (.slice none 0 0)], none⟩])
  (.seq (.seq (.region [
    ⟨(some 4), .mov (.tmp 0), none⟩, 
    ⟨(some 5), .len (.tmp 4), none⟩, 
    ⟨(some 6), .bin .gtr .num (.tmp 5) (.const (.int .i64 40)), none⟩])
  (.cond (.tmp 6)
    (.region [
      ⟨(some 7), .mov (.tmp 0), none⟩, 
      ⟨(some 8), .slc 5 (.tmp 7) none (some (.const (.int .i64 40))) none, none⟩, 
      ⟨(some 0), .mov (.tmp 8), none⟩])
    .skip))
  (.seq (.region [
    ⟨(some 9), .mov (.tmp 0), none⟩, 
    ⟨(some 10), .build [(.slice none 0 0)] [(0, 1, (.tmp 9))], none⟩, 
    ⟨(some 11), .box (.tmp 10), none⟩, 
    ⟨(some 3), .mov (.tmp 11), none⟩])
  (.seq (.region [
    ⟨(some 12), .mov (.tmp 3), none⟩, 
    ⟨(some 13), .call (.func 23) [(.tmp 12), (.const (.int .i64 12))], none⟩, 
    ⟨none, .store 4 (.tmp 2) (.tmp 13), none⟩])
  .ret))))
theorem ok12 : FnOk Try.prog 12 14 ir12 [.cell 2 true 4] := fnOk_of mixed Try.func12 (by kernel_rfl) Try.ntmps12 (by kernel_rfl) (by kernel_rfl)

/-- arbac/arbaclaw20.MeaningLogic$1 -/
def ir13 : ACode :=
  (.seq (.region [
    ⟨(some 4), .box (.tmp 1), none⟩, 
    ⟨(some 5), .box (.tmp 2), none⟩, 
    ⟨(some 6), .alloc [(.int .u8 0), (.int .i64 0), (.slice none 0 0), (.slice none 0 0)], none⟩])
  (.seq (.region [
    ⟨(some 7), .mov (.tmp 0), none⟩, 
    ⟨(some 8), .load true 4 (.tmp 4), none⟩, 
    ⟨(some 9), .load true 4 (.tmp 5), none⟩, 
    ⟨(some 10), .bslice [(.int .u8 0), (.int .i64 0), (.slice none 0 0), (.slice none 0 0)] 2 [(0, (.tmp 8)), (1, (.tmp 9))], none⟩, 
    ⟨(some 11), .build [(.int .u8 0), (.int .i64 0), (.slice none 0 0), (.slice none 0 0)] [(0, 1, (.tmp 7)), (3, 1, (.tmp 10))], none⟩, 
    ⟨none, .store 4 (.tmp 6) (.tmp 11), none⟩])
  .ret))
theorem ok13 : FnOk Try.prog 13 12 ir13 [.cell 6 true 4] := fnOk_of mixed Try.func13 (by kernel_rfl) Try.ntmps13 (by kernel_rfl) (by kernel_rfl)

/-- arbac/arbaclaw20.MeaningLogic$2 -/
def ir14 : ACode :=
  (.seq (.region [
    ⟨(some 1), .box (.tmp 0), none⟩, 
    ⟨(some 2), .alloc [(.int .u8 0), (.int .i64 0), (.slice none 0 0), (.slice none 0 0)], none⟩])
  (.seq (.region [
    ⟨(some 3), .load true 4 (.tmp 1), none⟩, 
    ⟨(some 4), .bslice [(.int .u8 0), (.int .i64 0), (.slice none 0 0), (.slice none 0 0)] 1 [(0, (.tmp 3))], none⟩, 
    ⟨(some 5), .build [(.int .u8 0), (.int .i64 0), (.slice none 0 0), (.slice none 0 0)] [(0, 1, (.const (.int .u8 7))), (3, 1, (.tmp 4))], none⟩, 
    ⟨none, .store 4 (.tmp 2) (.tmp 5), none⟩])
  .ret))
theorem ok14 : FnOk Try.prog 14 6 ir14 [.cell 2 true 4] := fnOk_of mixed Try.func14 (by kernel_rfl) Try.ntmps14 (by kernel_rfl) (by kernel_rfl)

/-- arbac/arbaclaw20.few -/
def ir15 : ACode :=
  (.seq (.region [
    ⟨(some 0), .mov (.const (.slice none 0 0)), none⟩])
  (.seq (.region [
    ⟨(some 1), .mov (.func 24), none⟩])
  (.seq (.region [
    ⟨(some 2), .mov (.func 25), none⟩])
  (.seq (.region [
    ⟨(some 3), .mov (.func 26), none⟩])
  (.seq (.region [
    ⟨(some 5), .mov (.tmp 2), none⟩, 
    ⟨(some 6), .call (.tmp 5) [(.const (.int .i64 1))], none⟩, 
    ⟨(some 7), .mov (.tmp 2), none⟩, 
    ⟨(some 8), .call (.tmp 7) [(.const (.int .i64 2))], none⟩, 
    ⟨(some 9), .bslice [(.int .u8 0), (.int .i64 0), (.slice none 0 0), (.slice none 0 0)] 2 [(0, (.tmp 6)), (1, (.tmp 8))], none⟩, 
    ⟨(some 10), .build [(.int .u8 0), (.int .i64 0), (.slice none 0 0), (.slice none 0 0)] [(0, 1, (.const (.int .u8 16))), (3, 1, (.tmp 9))], none⟩, 
    ⟨(some 4), .alloc [(.int .u8 0), (.int .i64 0), (.slice none 0 0), (.slice none 0 0)], none⟩, 
    ⟨none, .store 4 (.tmp 4) (.tmp 10), none⟩])
  (.seq (.draw [
    ⟨0, ⟨(some 11), .bslice [(.int .i64 0)] 2 [(0, (.const (.int .i64 1))), (1, (.const (.int .i64 2)))], none⟩, 0, false, false⟩, 
    ⟨1, ⟨(some 12), .build [(.int .u8 0), (.int .i64 0), (.slice none 0 0), (.slice none 0 0)] [(0, 1, (.const (.int .u8 5))), (2, 1, (.tmp 11))], none⟩, 1, false, false⟩, 
    ⟨2, ⟨(some 13), .mov (.tmp 1), none⟩, 0, false, false⟩, 
    ⟨3, ⟨(some 14), .call (.tmp 13) [(.const (.int .i64 1))], none⟩, 4, false, false⟩, 
    ⟨4, ⟨(some 15), .bslice [(.int .u8 0), (.int .i64 0), (.slice none 0 0), (.slice none 0 0)] 2 [(0, (.tmp 12)), (1, (.tmp 14))], none⟩, 15, false, false⟩, 
    ⟨5, ⟨(some 16), .build [(.int .u8 0), (.int .i64 0), (.slice none 0 0), (.slice none 0 0)] [(0, 1, (.const (.int .u8 11))), (3, 1, (.tmp 15))], none⟩, 31, false, false⟩, 
    ⟨6, ⟨(some 17), .mov (.tmp 3), none⟩, 0, false, false⟩, 
    ⟨7, ⟨(some 18), .call (.tmp 17) [(.const (.int .i64 1))], none⟩, 76, false, false⟩, 
    ⟨8, ⟨(some 19), .mov (.tmp 3), none⟩, 0, false, false⟩, 
    ⟨9, ⟨(some 20), .call (.tmp 19) [(.const (.int .i64 2))], none⟩, 460, false, false⟩, 
    ⟨10, ⟨(some 21), .bslice [(.int .u8 0), (.int .i64 0), (.slice none 0 0), (.slice none 0 0)] 2 [(0, (.tmp 18)), (1, (.tmp 20))], none⟩, 972, false, false⟩, 
    ⟨11, ⟨(some 22), .build [(.int .u8 0), (.int .i64 0), (.slice none 0 0), (.slice none 0 0)] [(0, 1, (.const (.int .u8 10))), (3, 1, (.tmp 21))], none⟩, 1996, false, false⟩, 
    ⟨12, ⟨(some 23), .load true 4 (.tmp 4), none⟩, 0, true, false⟩, 
    ⟨13, ⟨(some 24), .mov (.tmp 1), none⟩, 0, false, false⟩, 
    ⟨14, ⟨(some 25), .call (.tmp 24) [(.const (.int .i64 3))], none⟩, 9164, false, false⟩, 
    ⟨15, ⟨(some 26), .bslice [(.int .u8 0), (.int .i64 0), (.slice none 0 0), (.slice none 0 0)] 2 [(0, (.tmp 23)), (1, (.tmp 25))], none⟩, 29644, true, false⟩, 
    ⟨16, ⟨(some 27), .build [(.int .u8 0), (.int .i64 0), (.slice none 0 0), (.slice none 0 0)] [(0, 1, (.const (.int .u8 12))), (3, 1, (.tmp 26))], none⟩, 62412, true, false⟩, 
    ⟨17, ⟨(some 28), .bslice [(.int .u8 0), (.int .i64 0), (.slice none 0 0), (.slice none 0 0)] 3 [(0, (.tmp 16)), (1, (.tmp 22)), (2, (.tmp 27))], none⟩, 131071, true, false⟩, 
    ⟨18, ⟨(some 0), .mov (.tmp 28), none⟩, 262143, true, false⟩])
  .ret))))))
theorem ok15 : FnOk Try.prog 15 29 ir15 [.tmp 0] := fnOk_of mixed Try.func15 (by kernel_rfl) Try.ntmps15 (by kernel_rfl) (by kernel_rfl)

/-- arbac/bits.Of -/
def ir16 : ACode :=
  (.seq (.region [
    ⟨(some 2), .alloc [(.slice none 0 0)], none⟩])
  (.seq (.region [
    ⟨(some 3), .mov (.const (.int .i64 (-1))), none⟩])
  (.seq (.seq (.region [
    ⟨(some 9), .mov (.tmp 0), none⟩, 
    ⟨(some 10), .len (.tmp 9), none⟩, 
    ⟨(some 11), .mov (.const (.int .i64 0)), none⟩])
  (.block 0
    (.loop
      (.seq (.region [
        ⟨(some 12), .bin .lss .num (.tmp 11) (.tmp 10), none⟩])
      (.seq (.cond (.tmp 12)
        .skip
        (.exit 0))
      (.seq (.block 1
        (.seq (.region [
          ⟨(some 13), .iaddr 1 (.tmp 9) (.tmp 11), none⟩, 
          ⟨(some 14), .load false 1 (.tmp 13), none⟩, 
          ⟨(some 5), .mov (.tmp 14), none⟩])
        (.seq (.region [
          ⟨(some 15), .mov (.tmp 5), none⟩, 
          ⟨(some 16), .bin .leq .num (.tmp 15) (.const (.int .i64 4095)), none⟩])
        (.cond (.tmp 16)
          (.region [
            ⟨(some 17), .mov (.tmp 3), none⟩, 
            ⟨(some 18), .mov (.tmp 5), none⟩, 
            ⟨(some 19), .mx (.tmp 17) (.tmp 18), none⟩, 
            ⟨(some 3), .mov (.tmp 19), none⟩])
          .skip))))
      (.region [
        ⟨(some 20), .bin .add .num (.tmp 11) (.const (.int .i64 1)), none⟩, 
        ⟨(some 11), .mov (.tmp 20), none⟩])))))))
  (.seq (.seq (.region [
    ⟨(some 21), .mov (.tmp 3), none⟩, 
    ⟨(some 22), .bin .lss .num (.tmp 21) (.const (.int .i64 0)), none⟩])
  (.cond (.tmp 22)
    (.seq (.region [
      ⟨(some 23), .build [(.slice none 0 0)] [], none⟩, 
      ⟨none, .store 1 (.tmp 2) (.tmp 23), none⟩])
    .ret)
    .skip))
  (.seq (.region [
    ⟨(some 24), .mov (.tmp 3), none⟩, 
    ⟨(some 25), .bin .quo .num (.tmp 24) (.const (.int .i64 64)), none⟩, 
    ⟨(some 26), .bin .add .num (.tmp 25) (.const (.int .i64 1)), none⟩, 
    ⟨(some 27), .mslice [(.int .u64 0)] 8 (.tmp 26) (.tmp 26), none⟩, 
    ⟨(some 6), .mov (.tmp 27), none⟩])
  (.seq (.seq (.region [
    ⟨(some 28), .mov (.tmp 0), none⟩, 
    ⟨(some 29), .len (.tmp 28), none⟩, 
    ⟨(some 30), .mov (.const (.int .i64 0)), none⟩])
  (.block 2
    (.loop
      (.seq (.region [
        ⟨(some 31), .bin .lss .num (.tmp 30) (.tmp 29), none⟩])
      (.seq (.cond (.tmp 31)
        .skip
        (.exit 2))
      (.seq (.block 3
        (.seq (.region [
          ⟨(some 32), .iaddr 1 (.tmp 28) (.tmp 30), none⟩, 
          ⟨(some 33), .load false 1 (.tmp 32), none⟩, 
          ⟨(some 8), .mov (.tmp 33), none⟩])
        (.seq (.region [
          ⟨(some 34), .mov (.tmp 8), none⟩, 
          ⟨(some 35), .bin .geq .num (.tmp 34) (.const (.int .i64 0)), none⟩, 
          ⟨(some 36), .mov (.tmp 35), none⟩, 
          ⟨(some 37), .mov (.tmp 8), (some (36, true))⟩, 
          ⟨(some 38), .mov (.tmp 3), (some (36, true))⟩, 
          ⟨(some 39), .bin .leq .num (.tmp 37) (.tmp 38), (some (36, true))⟩, 
          ⟨(some 40), .pick (.tmp 36) (.tmp 39) (.const (.bool false)), none⟩])
        (.cond (.tmp 40)
          (.draw [
            ⟨0, ⟨(some 41), .mov (.tmp 6), none⟩, 0, true, false⟩, 
            ⟨1, ⟨(some 42), .mov (.tmp 8), none⟩, 0, true, false⟩, 
            ⟨2, ⟨(some 43), .bin .quo .num (.tmp 42) (.const (.int .i64 64)), none⟩, 2, true, false⟩, 
            ⟨3, ⟨(some 44), .iaddr 1 (.tmp 41) (.tmp 43), none⟩, 7, true, false⟩, 
            ⟨4, ⟨(some 45), .load false 1 (.tmp 44), none⟩, 15, true, false⟩, 
            ⟨5, ⟨(some 46), .mov (.tmp 8), none⟩, 0, false, false⟩, 
            ⟨6, ⟨(some 47), .bin .rem .num (.tmp 46) (.const (.int .i64 64)), none⟩, 32, false, false⟩, 
            ⟨7, ⟨(some 48), .bin .shl .num (.const (.int .u64 1)) (.tmp 47), none⟩, 96, false, false⟩, 
            ⟨8, ⟨(some 49), .bin .or .num (.tmp 45) (.tmp 48), none⟩, 255, true, false⟩, 
            ⟨9, ⟨(some 50), .iaddr 1 (.tmp 41) (.tmp 43), none⟩, 511, true, false⟩, 
            ⟨10, ⟨none, .store 1 (.tmp 50) (.tmp 49), none⟩, 1023, true, false⟩])
          .skip))))
      (.region [
        ⟨(some 51), .bin .add .num (.tmp 30) (.const (.int .i64 1)), none⟩, 
        ⟨(some 30), .mov (.tmp 51), none⟩])))))))
  (.seq (.region [
    ⟨(some 52), .mov (.tmp 6), none⟩, 
    ⟨(some 53), .call (.func 27) [(.tmp 52)], none⟩, 
    ⟨none, .store 1 (.tmp 2) (.tmp 53), none⟩])
  .ret)))))))
theorem ok16 : FnOk Try.prog 16 54 ir16 [.cell 2 true 1] := fnOk_of mixed Try.func16 (by kernel_rfl) Try.ntmps16 (by kernel_rfl) (by kernel_rfl)

/-- (*arbac/arbacref18.source).truth -/
def ir17 : ACode :=
  (.seq (.region [
    ⟨(some 8), .alloc [(.int .i64 0), (.int .i64 0), (.slice none 0 0), (.slice none 0 0)], none⟩])
  (.seq (.region [
    ⟨(some 12), .mov (.tmp 0), none⟩, 
    ⟨(some 13), .call (.func 28) [(.tmp 12)], none⟩, 
    ⟨(some 9), .mov (.tmp 13), none⟩])
  (.seq (.seq (.region [
    ⟨(some 14), .mov (.tmp 1), none⟩, 
    ⟨(some 15), .bin .leq .num (.tmp 14) (.const (.int .i64 1)), none⟩, 
    ⟨(some 16), .mov (.tmp 15), none⟩, 
    ⟨(some 17), .mov (.tmp 9), (some (16, false))⟩, 
    ⟨(some 18), .bin .rem .num (.tmp 17) (.const (.int .i64 8)), (some (16, false))⟩, 
    ⟨(some 19), .bin .leq .num (.tmp 18) (.const (.int .i64 1)), (some (16, false))⟩, 
    ⟨(some 20), .pick (.tmp 16) (.const (.bool true)) (.tmp 19), none⟩])
  (.cond (.tmp 20)
    (.seq (.block 0
      (.seq (.region [
        ⟨(some 22), .mov (.tmp 2), none⟩, 
        ⟨(some 23), .bin .eql .num (.tmp 22) (.const (.int .i64 3)), none⟩, 
        ⟨(some 24), .mov (.tmp 23), none⟩, 
        ⟨(some 25), .mov (.tmp 1), (some (24, true))⟩, 
        ⟨(some 26), .bin .gtr .num (.tmp 25) (.const (.int .i64 1)), (some (24, true))⟩, 
        ⟨(some 27), .pick (.tmp 24) (.tmp 26) (.const (.bool false)), none⟩, 
        ⟨(some 21), .mov (.tmp 27), none⟩])
      (.cond (.tmp 21)
        (.seq (.region [
          ⟨(some 28), .mov (.tmp 0), none⟩, 
          ⟨(some 29), .mov (.tmp 9), none⟩, 
          ⟨(some 30), .bin .quo .num (.tmp 29) (.const (.int .i64 8)), none⟩, 
          ⟨(some 31), .mov (.tmp 1), none⟩, 
          ⟨(some 32), .mov (.tmp 2), none⟩, 
          ⟨(some 33), .mov (.tmp 3), none⟩, 
          ⟨(some 34), .call (.func 29) [(.tmp 28), (.tmp 30), (.tmp 31), (.tmp 32), (.tmp 33)], none⟩, 
          ⟨none, .store 4 (.tmp 8) (.tmp 34), none⟩])
        .ret)
        (.seq (.region [
          ⟨(some 36), .mov (.tmp 2), none⟩, 
          ⟨(some 37), .bin .eql .num (.tmp 36) (.const (.int .i64 3)), none⟩, 
          ⟨(some 38), .mov (.tmp 37), none⟩, 
          ⟨(some 39), .mov (.tmp 9), (some (38, false))⟩, 
          ⟨(some 40), .bin .rem .num (.tmp 39) (.const (.int .i64 16)), (some (38, false))⟩, 
          ⟨(some 41), .bin .eql .num (.tmp 40) (.const (.int .i64 9)), (some (38, false))⟩, 
          ⟨(some 42), .pick (.tmp 38) (.const (.bool true)) (.tmp 41), none⟩, 
          ⟨(some 35), .mov (.tmp 42), none⟩])
        (.cond (.tmp 35)
          (.seq (.region [
            ⟨(some 43), .mov (.tmp 9), none⟩, 
            ⟨(some 44), .bin .quo .num (.tmp 43) (.const (.int .i64 16)), none⟩, 
            ⟨(some 45), .bin .rem .num (.tmp 44) (.const (.int .i64 2)), none⟩, 
            ⟨(some 46), .bin .add .num (.const (.int .i64 2)) (.tmp 45), none⟩, 
            ⟨(some 47), .build [(.int .i64 0), (.int .i64 0), (.slice none 0 0), (.slice none 0 0)] [(0, 1, (.tmp 46))], none⟩, 
            ⟨none, .store 4 (.tmp 8) (.tmp 47), none⟩])
          .ret)
          .skip)))))
    (.seq (.region [
      ⟨(some 48), .mov (.tmp 9), none⟩, 
      ⟨(some 49), .bin .quo .num (.tmp 48) (.const (.int .i64 8)), none⟩, 
      ⟨(some 50), .mov (.tmp 3), none⟩, 
      ⟨(some 51), .bin .rem .num (.tmp 49) (.tmp 50), none⟩, 
      ⟨(some 52), .bin .add .num (.const (.int .i64 1)) (.tmp 51), none⟩, 
      ⟨(some 53), .bslice [(.int .i64 0)] 1 [(0, (.tmp 52))], none⟩, 
      ⟨(some 54), .build [(.int .i64 0), (.int .i64 0), (.slice none 0 0), (.slice none 0 0)] [(0, 1, (.const (.int .i64 4))), (2, 1, (.tmp 53))], none⟩, 
      ⟨none, .store 4 (.tmp 8) (.tmp 54), none⟩])
    .ret))
    .skip))
  (.seq (.seq (.region [
    ⟨(some 55), .mov (.tmp 9), none⟩, 
    ⟨(some 56), .bin .rem .num (.tmp 55) (.const (.int .i64 8)), none⟩, 
    ⟨(some 57), .bin .geq .num (.tmp 56) (.const (.int .i64 6)), none⟩])
  (.cond (.tmp 57)
    (.seq (.region [
      ⟨(some 58), .mov (.tmp 0), none⟩, 
      ⟨(some 59), .mov (.tmp 9), none⟩, 
      ⟨(some 60), .bin .quo .num (.tmp 59) (.const (.int .i64 8)), none⟩, 
      ⟨(some 61), .mov (.tmp 1), none⟩, 
      ⟨(some 62), .mov (.tmp 2), none⟩, 
      ⟨(some 63), .mov (.tmp 3), none⟩, 
      ⟨(some 64), .call (.func 29) [(.tmp 58), (.tmp 60), (.tmp 61), (.tmp 62), (.tmp 63)], none⟩, 
      ⟨none, .store 4 (.tmp 8) (.tmp 64), none⟩])
    .ret)
    .skip))
  (.seq (.region [
    ⟨(some 65), .mov (.tmp 0), none⟩, 
    ⟨(some 66), .mov (.tmp 1), none⟩, 
    ⟨(some 67), .bin .sub .num (.tmp 66) (.const (.int .i64 1)), none⟩, 
    ⟨(some 68), .mov (.tmp 2), none⟩, 
    ⟨(some 69), .mov (.tmp 3), none⟩, 
    ⟨(some 70), .call (.func 17) [(.tmp 65), (.tmp 67), (.tmp 68), (.tmp 69)], none⟩, 
    ⟨(some 10), .alloc [(.int .i64 0), (.int .i64 0), (.slice none 0 0), (.slice none 0 0)], none⟩, 
    ⟨none, .store 4 (.tmp 10) (.tmp 70), none⟩])
  (.seq (.seq (.region [
    ⟨(some 71), .mov (.tmp 9), none⟩, 
    ⟨(some 72), .bin .rem .num (.tmp 71) (.const (.int .i64 8)), none⟩, 
    ⟨(some 73), .bin .eql .num (.tmp 72) (.const (.int .i64 2)), none⟩])
  (.cond (.tmp 73)
    (.seq (.region [
      ⟨(some 74), .load true 4 (.tmp 10), none⟩, 
      ⟨(some 75), .bslice [(.int .i64 0), (.int .i64 0), (.slice none 0 0), (.slice none 0 0)] 1 [(0, (.tmp 74))], none⟩, 
      ⟨(some 76), .build [(.int .i64 0), (.int .i64 0), (.slice none 0 0), (.slice none 0 0)] [(0, 1, (.const (.int .i64 7))), (3, 1, (.tmp 75))], none⟩, 
      ⟨none, .store 4 (.tmp 8) (.tmp 76), none⟩])
    .ret)
    .skip))
  (.seq (.region [
    ⟨(some 77), .mov (.tmp 0), none⟩, 
    ⟨(some 78), .mov (.tmp 1), none⟩, 
    ⟨(some 79), .bin .sub .num (.tmp 78) (.const (.int .i64 1)), none⟩, 
    ⟨(some 80), .mov (.tmp 2), none⟩, 
    ⟨(some 81), .mov (.tmp 3), none⟩, 
    ⟨(some 82), .call (.func 17) [(.tmp 77), (.tmp 79), (.tmp 80), (.tmp 81)], none⟩, 
    ⟨(some 11), .alloc [(.int .i64 0), (.int .i64 0), (.slice none 0 0), (.slice none 0 0)], none⟩, 
    ⟨none, .store 4 (.tmp 11) (.tmp 82), none⟩])
  (.seq (.region [
    ⟨(some 83), .mov (.tmp 9), none⟩, 
    ⟨(some 84), .bin .rem .num (.tmp 83) (.const (.int .i64 8)), none⟩, 
    ⟨(some 85), .bin .add .num (.const (.int .i64 8)) (.tmp 84), none⟩, 
    ⟨(some 86), .bin .sub .num (.tmp 85) (.const (.int .i64 3)), none⟩, 
    ⟨(some 87), .load true 4 (.tmp 10), none⟩, 
    ⟨(some 88), .load true 4 (.tmp 11), none⟩, 
    ⟨(some 89), .bslice [(.int .i64 0), (.int .i64 0), (.slice none 0 0), (.slice none 0 0)] 2 [(0, (.tmp 87)), (1, (.tmp 88))], none⟩, 
    ⟨(some 90), .build [(.int .i64 0), (.int .i64 0), (.slice none 0 0), (.slice none 0 0)] [(0, 1, (.tmp 86)), (3, 1, (.tmp 89))], none⟩, 
    ⟨none, .store 4 (.tmp 8) (.tmp 90), none⟩])
  .ret))))))))
theorem ok17 : FnOk Try.prog 17 91 ir17 [.cell 8 true 4] := fnOk_of mixed Try.func17 (by kernel_rfl) Try.ntmps17 (by kernel_rfl) (by kernel_rfl)

/-- arbac/formula.TypeOf -/
def ir18 : ACode :=
  (.seq (.region [
    ⟨(some 1), .box (.tmp 0), none⟩, 
    ⟨(some 2), .mov (.const (.int .u8 0)), none⟩, 
    ⟨(some 3), .mov (.const (.int .i64 0)), none⟩])
  (.seq (.seq (.region [
    ⟨(some 5), .load true 4 (.tmp 1), none⟩, 
    ⟨(some 6), .call (.func 30) [(.tmp 5), (.const (.int .u8 0))], none⟩, 
    ⟨(some 4), .mov (.tmp 6), none⟩])
  (.seq (.region [
    ⟨(some 7), .mov (.tmp 4), none⟩, 
    ⟨(some 8), .bin .neq .num (.tmp 7) (.const (.int .i64 0)), none⟩])
  (.cond (.tmp 8)
    (.seq (.region [
      ⟨(some 9), .mov (.tmp 4), none⟩, 
      ⟨(some 2), .mov (.const (.int .u8 0)), none⟩, 
      ⟨(some 3), .mov (.tmp 9), none⟩])
    .ret)
    .skip)))
  (.seq (.seq (.region [
    ⟨(some 10), .load true 4 (.tmp 1), none⟩, 
    ⟨(some 11), .call (.func 31) [(.tmp 10)], none⟩, 
    ⟨(some 12), .una .not (.tmp 11), none⟩])
  (.cond (.tmp 12)
    (.seq (.region [
      ⟨(some 2), .mov (.const (.int .u8 0)), none⟩, 
      ⟨(some 3), .mov (.const (.int .i64 10)), none⟩])
    .ret)
    .skip))
  (.seq (.region [
    ⟨(some 13), .faddr 0 (.tmp 1), none⟩, 
    ⟨(some 14), .load false 1 (.tmp 13), none⟩, 
    ⟨(some 15), .call (.func 32) [(.tmp 14)], none⟩, 
    ⟨(some 2), .mov (.tmp 15), none⟩, 
    ⟨(some 3), .mov (.const (.int .i64 0)), none⟩])
  .ret))))
theorem ok18 : FnOk Try.prog 18 16 ir18 [.tmp 2, .tmp 3] := fnOk_of mixed Try.func18 (by kernel_rfl) Try.ntmps18 (by kernel_rfl) (by kernel_rfl)

/-- (arbac/meaning.world).value -/
def ir19 : ACode :=
  (.seq (.region [
    ⟨(some 2), .box (.tmp 0), none⟩, 
    ⟨(some 3), .box (.tmp 1), none⟩, 
    ⟨(some 4), .mov (.const (.int .i64 0)), none⟩])
  (.seq (.seq (.region [
    ⟨(some 10), .faddr 0 (.tmp 3), none⟩, 
    ⟨(some 11), .load false 1 (.tmp 10), none⟩])
  (.block 0
    (.seq (.region [
      ⟨(some 13), .bin .eql .num (.tmp 11) (.const (.int .u8 1)), none⟩, 
      ⟨(some 12), .mov (.tmp 13), none⟩])
    (.cond (.tmp 12)
      (.seq (.region [
        ⟨(some 14), .faddr 1 (.tmp 3), none⟩, 
        ⟨(some 15), .load false 1 (.tmp 14), none⟩, 
        ⟨(some 4), .mov (.tmp 15), none⟩])
      .ret)
      (.seq (.region [
        ⟨(some 17), .bin .eql .num (.tmp 11) (.const (.int .u8 2)), none⟩, 
        ⟨(some 16), .mov (.tmp 17), none⟩])
      (.cond (.tmp 16)
        (.seq (.region [
          ⟨(some 4), .mov (.const (.int .i64 1)), none⟩])
        .ret)
        (.seq (.region [
          ⟨(some 19), .bin .eql .num (.tmp 11) (.const (.int .u8 3)), none⟩, 
          ⟨(some 18), .mov (.tmp 19), none⟩])
        (.cond (.tmp 18)
          (.seq (.region [
            ⟨(some 4), .mov (.const (.int .i64 0)), none⟩])
          .ret)
          (.seq (.seq (.region [
            ⟨(some 21), .bin .eql .num (.tmp 11) (.const (.int .u8 4)), none⟩, 
            ⟨(some 20), .mov (.tmp 21), none⟩])
          (.cond (.tmp 20)
            .skip
            (.region [
              ⟨(some 22), .bin .eql .num (.tmp 11) (.const (.int .u8 5)), none⟩, 
              ⟨(some 20), .mov (.tmp 22), none⟩])))
          (.cond (.tmp 20)
            (.seq (.region [
              ⟨(some 5), .mov (.const (.int .i64 0)), none⟩])
            (.seq (.seq (.region [
              ⟨(some 23), .faddr 2 (.tmp 3), none⟩, 
              ⟨(some 24), .load false 1 (.tmp 23), none⟩, 
              ⟨(some 25), .len (.tmp 24), none⟩, 
              ⟨(some 26), .mov (.const (.int .i64 0)), none⟩])
            (.block 1
              (.loop
                (.seq (.region [
                  ⟨(some 27), .bin .lss .num (.tmp 26) (.tmp 25), none⟩])
                (.seq (.cond (.tmp 27)
                  .skip
                  (.exit 1))
                (.seq (.block 2
                  (.seq (.region [
                    ⟨(some 28), .iaddr 1 (.tmp 24) (.tmp 26), none⟩, 
                    ⟨(some 29), .load false 1 (.tmp 28), none⟩, 
                    ⟨(some 7), .mov (.tmp 29), none⟩])
                  (.region [
                    ⟨(some 30), .mov (.tmp 5), none⟩, 
                    ⟨(some 31), .faddr 0 (.tmp 2), none⟩, 
                    ⟨(some 32), .load true 1 (.tmp 31), none⟩, 
                    ⟨(some 33), .mov (.tmp 7), none⟩, 
                    ⟨(some 34), .call (.func 34) [(.tmp 32), (.tmp 33)], none⟩, 
                    ⟨(some 35), .call (.func 33) [(.tmp 34)], none⟩, 
                    ⟨(some 36), .bin .add .num (.tmp 30) (.tmp 35), none⟩, 
                    ⟨(some 5), .mov (.tmp 36), none⟩])))
                (.region [
                  ⟨(some 37), .bin .add .num (.tmp 26) (.const (.int .i64 1)), none⟩, 
                  ⟨(some 26), .mov (.tmp 37), none⟩])))))))
            (.seq (.region [
              ⟨(some 38), .mov (.tmp 5), none⟩, 
              ⟨(some 4), .mov (.tmp 38), none⟩])
            .ret)))
            (.seq (.region [
              ⟨(some 40), .bin .eql .num (.tmp 11) (.const (.int .u8 6)), none⟩, 
              ⟨(some 39), .mov (.tmp 40), none⟩])
            (.cond (.tmp 39)
              (.seq (.draw [
                ⟨0, ⟨(some 41), .load true 2 (.tmp 2), none⟩, 0, false, false⟩, 
                ⟨1, ⟨(some 42), .faddr 2 (.tmp 3), none⟩, 0, false, false⟩, 
                ⟨2, ⟨(some 43), .load false 1 (.tmp 42), none⟩, 2, false, false⟩, 
                ⟨3, ⟨(some 44), .iaddr 1 (.tmp 43) (.const (.int .i64 0)), none⟩, 6, false, false⟩, 
                ⟨4, ⟨(some 45), .load false 1 (.tmp 44), none⟩, 14, false, false⟩, 
                ⟨5, ⟨(some 46), .call (.func 35) [(.tmp 41), (.tmp 45)], none⟩, 31, true, false⟩, 
                ⟨6, ⟨(some 4), .mov (.tmp 46), none⟩, 63, true, false⟩])
              .ret)
              (.seq (.region [
                ⟨(some 48), .bin .eql .num (.tmp 11) (.const (.int .u8 7)), none⟩, 
                ⟨(some 47), .mov (.tmp 48), none⟩])
              (.cond (.tmp 47)
                (.seq (.draw [
                  ⟨0, ⟨(some 49), .load true 2 (.tmp 2), none⟩, 0, false, false⟩, 
                  ⟨1, ⟨(some 50), .faddr 3 (.tmp 3), none⟩, 0, false, false⟩, 
                  ⟨2, ⟨(some 51), .load false 1 (.tmp 50), none⟩, 2, false, false⟩, 
                  ⟨3, ⟨(some 52), .iaddr 4 (.tmp 51) (.const (.int .i64 0)), none⟩, 6, false, false⟩, 
                  ⟨4, ⟨(some 53), .load true 4 (.tmp 52), none⟩, 14, false, false⟩, 
                  ⟨5, ⟨(some 54), .call (.func 19) [(.tmp 49), (.tmp 53)], none⟩, 31, true, false⟩, 
                  ⟨6, ⟨(some 55), .bin .sub .num (.const (.int .i64 1)) (.tmp 54), none⟩, 63, true, false⟩, 
                  ⟨7, ⟨(some 4), .mov (.tmp 55), none⟩, 127, true, false⟩])
                .ret)
                .skip))))))))))))))
  (.seq (.draw [
    ⟨0, ⟨(some 56), .load true 2 (.tmp 2), none⟩, 0, false, false⟩, 
    ⟨1, ⟨(some 57), .faddr 3 (.tmp 3), none⟩, 0, false, false⟩, 
    ⟨2, ⟨(some 58), .load false 1 (.tmp 57), none⟩, 2, false, false⟩, 
    ⟨3, ⟨(some 59), .iaddr 4 (.tmp 58) (.const (.int .i64 0)), none⟩, 6, false, false⟩, 
    ⟨4, ⟨(some 60), .load true 4 (.tmp 59), none⟩, 14, false, false⟩, 
    ⟨5, ⟨(some 61), .call (.func 19) [(.tmp 56), (.tmp 60)], none⟩, 31, false, false⟩, 
    ⟨6, ⟨(some 62), .load true 2 (.tmp 2), none⟩, 0, false, false⟩, 
    ⟨7, ⟨(some 63), .faddr 3 (.tmp 3), none⟩, 0, false, false⟩, 
    ⟨8, ⟨(some 64), .load false 1 (.tmp 63), none⟩, 128, false, false⟩, 
    ⟨9, ⟨(some 65), .iaddr 4 (.tmp 64) (.const (.int .i64 1)), none⟩, 384, false, false⟩, 
    ⟨10, ⟨(some 66), .load true 4 (.tmp 65), none⟩, 896, false, false⟩, 
    ⟨11, ⟨(some 67), .call (.func 19) [(.tmp 62), (.tmp 66)], none⟩, 2047, true, false⟩, 
    ⟨12, ⟨(some 8), .mov (.tmp 61), none⟩, 4095, true, false⟩, 
    ⟨13, ⟨(some 9), .mov (.tmp 67), none⟩, 8191, true, false⟩])
  (.seq (.seq (.region [
    ⟨(some 68), .faddr 0 (.tmp 3), none⟩, 
    ⟨(some 69), .load false 1 (.tmp 68), none⟩])
  (.block 3
    (.seq (.region [
      ⟨(some 71), .bin .eql .num (.tmp 69) (.const (.int .u8 8)), none⟩, 
      ⟨(some 70), .mov (.tmp 71), none⟩])
    (.cond (.tmp 70)
      (.seq (.region [
        ⟨(some 72), .mov (.tmp 8), none⟩, 
        ⟨(some 73), .mov (.tmp 9), none⟩, 
        ⟨(some 74), .bin .mul .num (.tmp 72) (.tmp 73), none⟩, 
        ⟨(some 4), .mov (.tmp 74), none⟩])
      .ret)
      (.seq (.region [
        ⟨(some 76), .bin .eql .num (.tmp 69) (.const (.int .u8 9)), none⟩, 
        ⟨(some 75), .mov (.tmp 76), none⟩])
      (.cond (.tmp 75)
        (.seq (.region [
          ⟨(some 77), .mov (.tmp 8), none⟩, 
          ⟨(some 78), .mov (.tmp 9), none⟩, 
          ⟨(some 79), .mx (.tmp 77) (.tmp 78), none⟩, 
          ⟨(some 4), .mov (.tmp 79), none⟩])
        .ret)
        (.seq (.region [
          ⟨(some 81), .bin .eql .num (.tmp 69) (.const (.int .u8 10)), none⟩, 
          ⟨(some 80), .mov (.tmp 81), none⟩])
        (.cond (.tmp 80)
          (.seq (.region [
            ⟨(some 82), .mov (.tmp 8), none⟩, 
            ⟨(some 83), .bin .sub .num (.const (.int .i64 1)) (.tmp 82), none⟩, 
            ⟨(some 84), .mov (.tmp 9), none⟩, 
            ⟨(some 85), .mx (.tmp 83) (.tmp 84), none⟩, 
            ⟨(some 4), .mov (.tmp 85), none⟩])
          .ret)
          (.seq (.region [
            ⟨(some 87), .bin .eql .num (.tmp 69) (.const (.int .u8 11)), none⟩, 
            ⟨(some 86), .mov (.tmp 87), none⟩])
          (.cond (.tmp 86)
            (.seq (.region [
              ⟨(some 88), .mov (.tmp 8), none⟩, 
              ⟨(some 89), .mov (.tmp 9), none⟩, 
              ⟨(some 90), .bin .leq .num (.tmp 88) (.tmp 89), none⟩, 
              ⟨(some 91), .call (.func 33) [(.tmp 90)], none⟩, 
              ⟨(some 4), .mov (.tmp 91), none⟩])
            .ret)
            (.seq (.region [
              ⟨(some 93), .bin .eql .num (.tmp 69) (.const (.int .u8 12)), none⟩, 
              ⟨(some 92), .mov (.tmp 93), none⟩])
            (.cond (.tmp 92)
              (.seq (.region [
                ⟨(some 94), .mov (.tmp 8), none⟩, 
                ⟨(some 95), .mov (.tmp 9), none⟩, 
                ⟨(some 96), .bin .lss .num (.tmp 94) (.tmp 95), none⟩, 
                ⟨(some 97), .call (.func 33) [(.tmp 96)], none⟩, 
                ⟨(some 4), .mov (.tmp 97), none⟩])
              .ret)
              (.seq (.region [
                ⟨(some 99), .bin .eql .num (.tmp 69) (.const (.int .u8 13)), none⟩, 
                ⟨(some 98), .mov (.tmp 99), none⟩])
              (.cond (.tmp 98)
                (.seq (.region [
                  ⟨(some 100), .mov (.tmp 8), none⟩, 
                  ⟨(some 101), .mov (.tmp 9), none⟩, 
                  ⟨(some 102), .bin .geq .num (.tmp 100) (.tmp 101), none⟩, 
                  ⟨(some 103), .call (.func 33) [(.tmp 102)], none⟩, 
                  ⟨(some 4), .mov (.tmp 103), none⟩])
                .ret)
                (.seq (.region [
                  ⟨(some 105), .bin .eql .num (.tmp 69) (.const (.int .u8 14)), none⟩, 
                  ⟨(some 104), .mov (.tmp 105), none⟩])
                (.cond (.tmp 104)
                  (.seq (.region [
                    ⟨(some 106), .mov (.tmp 8), none⟩, 
                    ⟨(some 107), .mov (.tmp 9), none⟩, 
                    ⟨(some 108), .bin .gtr .num (.tmp 106) (.tmp 107), none⟩, 
                    ⟨(some 109), .call (.func 33) [(.tmp 108)], none⟩, 
                    ⟨(some 4), .mov (.tmp 109), none⟩])
                  .ret)
                  (.seq (.region [
                    ⟨(some 111), .bin .eql .num (.tmp 69) (.const (.int .u8 15)), none⟩, 
                    ⟨(some 110), .mov (.tmp 111), none⟩])
                  (.cond (.tmp 110)
                    (.seq (.region [
                      ⟨(some 112), .mov (.tmp 8), none⟩, 
                      ⟨(some 113), .mov (.tmp 9), none⟩, 
                      ⟨(some 114), .bin .eql .num (.tmp 112) (.tmp 113), none⟩, 
                      ⟨(some 115), .call (.func 33) [(.tmp 114)], none⟩, 
                      ⟨(some 4), .mov (.tmp 115), none⟩])
                    .ret)
                    .skip))))))))))))))))))
  (.seq (.region [
    ⟨(some 116), .mov (.tmp 8), none⟩, 
    ⟨(some 117), .mov (.tmp 9), none⟩, 
    ⟨(some 118), .bin .add .num (.tmp 116) (.tmp 117), none⟩, 
    ⟨(some 4), .mov (.tmp 118), none⟩])
  .ret)))))
theorem ok19 : FnOk Try.prog 19 119 ir19 [.tmp 4] := fnOk_of mixed Try.func19 (by kernel_rfl) Try.ntmps19 (by kernel_rfl) (by kernel_rfl)

/-- (arbac/bits.Set).With -/
def ir20 : ACode :=
  (.seq (.region [
    ⟨(some 2), .box (.tmp 0), none⟩, 
    ⟨(some 4), .alloc [(.slice none 0 0)], none⟩])
  (.seq (.seq (.region [
    ⟨(some 6), .mov (.tmp 1), none⟩, 
    ⟨(some 7), .bin .lss .num (.tmp 6) (.const (.int .i64 0)), none⟩, 
    ⟨(some 8), .mov (.tmp 7), none⟩, 
    ⟨(some 9), .mov (.tmp 1), (some (8, false))⟩, 
    ⟨(some 10), .bin .gtr .num (.tmp 9) (.const (.int .i64 4095)), (some (8, false))⟩, 
    ⟨(some 11), .pick (.tmp 8) (.const (.bool true)) (.tmp 10), none⟩, 
    ⟨(some 12), .mov (.tmp 11), none⟩, 
    ⟨(some 13), .load true 1 (.tmp 2), (some (12, false))⟩, 
    ⟨(some 14), .mov (.tmp 1), (some (12, false))⟩, 
    ⟨(some 15), .call (.func 34) [(.tmp 13), (.tmp 14)], (some (12, false))⟩, 
    ⟨(some 16), .pick (.tmp 12) (.const (.bool true)) (.tmp 15), none⟩])
  (.cond (.tmp 16)
    (.seq (.region [
      ⟨(some 17), .load true 1 (.tmp 2), none⟩, 
      ⟨none, .store 1 (.tmp 4) (.tmp 17), none⟩])
    .ret)
    .skip))
  (.seq (.region [
    ⟨(some 18), .faddr 0 (.tmp 2), none⟩, 
    ⟨(some 19), .load false 1 (.tmp 18), none⟩, 
    ⟨(some 20), .len (.tmp 19), none⟩, 
    ⟨(some 21), .mov (.tmp 1), none⟩, 
    ⟨(some 22), .bin .quo .num (.tmp 21) (.const (.int .i64 64)), none⟩, 
    ⟨(some 23), .bin .add .num (.tmp 22) (.const (.int .i64 1)), none⟩, 
    ⟨(some 24), .mx (.tmp 20) (.tmp 23), none⟩, 
    ⟨(some 25), .mslice [(.int .u64 0)] 8 (.tmp 24) (.tmp 24), none⟩, 
    ⟨(some 5), .mov (.tmp 25), none⟩])
  (.seq (.region [
    ⟨(some 26), .mov (.tmp 5), none⟩, 
    ⟨(some 27), .faddr 0 (.tmp 2), none⟩, 
    ⟨(some 28), .load false 1 (.tmp 27), none⟩, 
    ⟨(some 29), .copy 1 (.tmp 26) (.tmp 28), none⟩])
  (.seq (.draw [
    ⟨0, ⟨(some 30), .mov (.tmp 5), none⟩, 0, true, false⟩, 
    ⟨1, ⟨(some 31), .mov (.tmp 1), none⟩, 0, true, false⟩, 
    ⟨2, ⟨(some 32), .bin .quo .num (.tmp 31) (.const (.int .i64 64)), none⟩, 2, true, false⟩, 
    ⟨3, ⟨(some 33), .iaddr 1 (.tmp 30) (.tmp 32), none⟩, 7, true, false⟩, 
    ⟨4, ⟨(some 34), .load false 1 (.tmp 33), none⟩, 15, true, false⟩, 
    ⟨5, ⟨(some 35), .mov (.tmp 1), none⟩, 0, false, false⟩, 
    ⟨6, ⟨(some 36), .bin .rem .num (.tmp 35) (.const (.int .i64 64)), none⟩, 32, false, false⟩, 
    ⟨7, ⟨(some 37), .bin .shl .num (.const (.int .u64 1)) (.tmp 36), none⟩, 96, false, false⟩, 
    ⟨8, ⟨(some 38), .bin .or .num (.tmp 34) (.tmp 37), none⟩, 255, true, false⟩, 
    ⟨9, ⟨(some 39), .iaddr 1 (.tmp 30) (.tmp 32), none⟩, 511, true, false⟩, 
    ⟨10, ⟨none, .store 1 (.tmp 39) (.tmp 38), none⟩, 1023, true, false⟩])
  (.seq (.region [
    ⟨(some 40), .mov (.tmp 5), none⟩, 
    ⟨(some 41), .build [(.slice none 0 0)] [(0, 1, (.tmp 40))], none⟩, 
    ⟨none, .store 1 (.tmp 4) (.tmp 41), none⟩])
  .ret))))))
theorem ok20 : FnOk Try.prog 20 42 ir20 [.cell 4 true 1] := fnOk_of mixed Try.func20 (by kernel_rfl) Try.ntmps20 (by kernel_rfl) (by kernel_rfl)

/-- arbac/arbacref18.TypeOf -/
def ir21 : ACode :=
  (.seq (.region [
    ⟨(some 1), .box (.tmp 0), none⟩, 
    ⟨(some 2), .mov (.const (.int .i64 0)), none⟩, 
    ⟨(some 3), .mov (.const (.int .i64 0)), none⟩])
  (.seq (.seq (.region [
    ⟨(some 5), .load true 4 (.tmp 1), none⟩, 
    ⟨(some 6), .call (.func 36) [(.tmp 5)], none⟩, 
    ⟨(some 7), .bin .gtr .num (.tmp 6) (.const (.int .i64 10)), none⟩, 
    ⟨(some 8), .mov (.tmp 7), none⟩, 
    ⟨(some 9), .load true 4 (.tmp 1), (some (8, false))⟩, 
    ⟨(some 10), .call (.func 37) [(.tmp 9)], (some (8, false))⟩, 
    ⟨(some 11), .bin .gtr .num (.tmp 10) (.const (.int .i64 200)), (some (8, false))⟩, 
    ⟨(some 12), .pick (.tmp 8) (.const (.bool true)) (.tmp 11), none⟩])
  (.cond (.tmp 12)
    (.seq (.region [
      ⟨(some 2), .mov (.const (.int .i64 0)), none⟩, 
      ⟨(some 3), .mov (.const (.int .i64 3)), none⟩])
    .ret)
    .skip))
  (.seq (.region [
    ⟨(some 13), .load true 4 (.tmp 1), none⟩, 
    ⟨(some 14), .call (.func 38) [(.tmp 13), (.const (.int .i64 0))], none⟩, 
    ⟨(some 4), .mov (.tmp 14), none⟩])
  (.seq (.seq (.region [
    ⟨(some 15), .mov (.tmp 4), none⟩, 
    ⟨(some 16), .bin .neq .num (.tmp 15) (.const (.int .i64 0)), none⟩])
  (.cond (.tmp 16)
    (.seq (.region [
      ⟨(some 17), .mov (.tmp 4), none⟩, 
      ⟨(some 2), .mov (.const (.int .i64 0)), none⟩, 
      ⟨(some 3), .mov (.tmp 17), none⟩])
    .ret)
    .skip))
  (.seq (.seq (.region [
    ⟨(some 18), .load true 4 (.tmp 1), none⟩, 
    ⟨(some 19), .call (.func 39) [(.tmp 18)], none⟩, 
    ⟨(some 20), .una .not (.tmp 19), none⟩])
  (.cond (.tmp 20)
    (.seq (.region [
      ⟨(some 2), .mov (.const (.int .i64 0)), none⟩, 
      ⟨(some 3), .mov (.const (.int .i64 10)), none⟩])
    .ret)
    .skip))
  (.seq (.region [
    ⟨(some 21), .faddr 0 (.tmp 1), none⟩, 
    ⟨(some 22), .load false 1 (.tmp 21), none⟩, 
    ⟨(some 23), .call (.func 40) [(.tmp 22)], none⟩, 
    ⟨(some 2), .mov (.tmp 23), none⟩, 
    ⟨(some 3), .mov (.const (.int .i64 0)), none⟩])
  .ret))))))
theorem ok21 : FnOk Try.prog 21 24 ir21 [.tmp 2, .tmp 3] := fnOk_of mixed Try.func21 (by kernel_rfl) Try.ntmps21 (by kernel_rfl) (by kernel_rfl)

/-- arbac/arbacref20.truth -/
def ir22 : ACode :=
  (.seq (.region [
    ⟨(some 3), .box (.tmp 0), none⟩, 
    ⟨(some 6), .mov (.const (.bool false)), none⟩])
  (.seq (.seq (.region [
    ⟨(some 9), .faddr 0 (.tmp 3), none⟩, 
    ⟨(some 10), .load false 1 (.tmp 9), none⟩])
  (.block 0
    (.seq (.region [
      ⟨(some 12), .bin .eql .num (.tmp 10) (.const (.int .i64 2)), none⟩, 
      ⟨(some 11), .mov (.tmp 12), none⟩])
    (.cond (.tmp 11)
      (.seq (.region [
        ⟨(some 6), .mov (.const (.bool true)), none⟩])
      .ret)
      (.seq (.region [
        ⟨(some 14), .bin .eql .num (.tmp 10) (.const (.int .i64 3)), none⟩, 
        ⟨(some 13), .mov (.tmp 14), none⟩])
      (.cond (.tmp 13)
        (.seq (.region [
          ⟨(some 6), .mov (.const (.bool false)), none⟩])
        .ret)
        (.seq (.region [
          ⟨(some 16), .bin .eql .num (.tmp 10) (.const (.int .i64 4)), none⟩, 
          ⟨(some 15), .mov (.tmp 16), none⟩])
        (.cond (.tmp 15)
          (.seq (.region [
            ⟨(some 17), .mov (.tmp 1), none⟩, 
            ⟨(some 18), .faddr 2 (.tmp 3), none⟩, 
            ⟨(some 19), .load false 1 (.tmp 18), none⟩, 
            ⟨(some 20), .iaddr 1 (.tmp 19) (.const (.int .i64 0)), none⟩, 
            ⟨(some 21), .load false 1 (.tmp 20), none⟩, 
            ⟨(some 22), .conv .u64 (.tmp 21), none⟩, 
            ⟨(some 23), .bin .shr .num (.tmp 17) (.tmp 22), none⟩, 
            ⟨(some 24), .bin .rem .num (.tmp 23) (.const (.int .u64 2)), none⟩, 
            ⟨(some 25), .bin .eql .num (.tmp 24) (.const (.int .u64 1)), none⟩, 
            ⟨(some 6), .mov (.tmp 25), none⟩])
          .ret)
          (.seq (.region [
            ⟨(some 27), .bin .eql .num (.tmp 10) (.const (.int .i64 7)), none⟩, 
            ⟨(some 26), .mov (.tmp 27), none⟩])
          (.cond (.tmp 26)
            (.seq (.region [
              ⟨(some 28), .faddr 3 (.tmp 3), none⟩, 
              ⟨(some 29), .load false 1 (.tmp 28), none⟩, 
              ⟨(some 30), .iaddr 4 (.tmp 29) (.const (.int .i64 0)), none⟩, 
              ⟨(some 31), .load true 4 (.tmp 30), none⟩, 
              ⟨(some 32), .mov (.tmp 1), none⟩, 
              ⟨(some 33), .mov (.tmp 2), none⟩, 
              ⟨(some 34), .call (.func 22) [(.tmp 31), (.tmp 32), (.tmp 33)], none⟩, 
              ⟨(some 35), .una .not (.tmp 34), none⟩, 
              ⟨(some 6), .mov (.tmp 35), none⟩])
            .ret)
            (.seq (.region [
              ⟨(some 37), .bin .eql .num (.tmp 10) (.const (.int .i64 8)), none⟩, 
              ⟨(some 36), .mov (.tmp 37), none⟩])
            (.cond (.tmp 36)
              (.seq (.region [
                ⟨(some 38), .faddr 3 (.tmp 3), none⟩, 
                ⟨(some 39), .load false 1 (.tmp 38), none⟩, 
                ⟨(some 40), .iaddr 4 (.tmp 39) (.const (.int .i64 0)), none⟩, 
                ⟨(some 41), .load true 4 (.tmp 40), none⟩, 
                ⟨(some 42), .mov (.tmp 1), none⟩, 
                ⟨(some 43), .mov (.tmp 2), none⟩, 
                ⟨(some 44), .call (.func 22) [(.tmp 41), (.tmp 42), (.tmp 43)], none⟩, 
                ⟨(some 45), .mov (.tmp 44), none⟩, 
                ⟨(some 46), .faddr 3 (.tmp 3), (some (45, true))⟩, 
                ⟨(some 47), .load false 1 (.tmp 46), (some (45, true))⟩, 
                ⟨(some 48), .iaddr 4 (.tmp 47) (.const (.int .i64 1)), (some (45, true))⟩, 
                ⟨(some 49), .load true 4 (.tmp 48), (some (45, true))⟩, 
                ⟨(some 50), .mov (.tmp 1), (some (45, true))⟩, 
                ⟨(some 51), .mov (.tmp 2), (some (45, true))⟩, 
                ⟨(some 52), .call (.func 22) [(.tmp 49), (.tmp 50), (.tmp 51)], (some (45, true))⟩, 
                ⟨(some 53), .pick (.tmp 45) (.tmp 52) (.const (.bool false)), none⟩, 
                ⟨(some 6), .mov (.tmp 53), none⟩])
              .ret)
              (.seq (.region [
                ⟨(some 55), .bin .eql .num (.tmp 10) (.const (.int .i64 9)), none⟩, 
                ⟨(some 54), .mov (.tmp 55), none⟩])
              (.cond (.tmp 54)
                (.seq (.region [
                  ⟨(some 56), .faddr 3 (.tmp 3), none⟩, 
                  ⟨(some 57), .load false 1 (.tmp 56), none⟩, 
                  ⟨(some 58), .iaddr 4 (.tmp 57) (.const (.int .i64 0)), none⟩, 
                  ⟨(some 59), .load true 4 (.tmp 58), none⟩, 
                  ⟨(some 60), .mov (.tmp 1), none⟩, 
                  ⟨(some 61), .mov (.tmp 2), none⟩, 
                  ⟨(some 62), .call (.func 22) [(.tmp 59), (.tmp 60), (.tmp 61)], none⟩, 
                  ⟨(some 63), .mov (.tmp 62), none⟩, 
                  ⟨(some 64), .faddr 3 (.tmp 3), (some (63, false))⟩, 
                  ⟨(some 65), .load false 1 (.tmp 64), (some (63, false))⟩, 
                  ⟨(some 66), .iaddr 4 (.tmp 65) (.const (.int .i64 1)), (some (63, false))⟩, 
                  ⟨(some 67), .load true 4 (.tmp 66), (some (63, false))⟩, 
                  ⟨(some 68), .mov (.tmp 1), (some (63, false))⟩, 
                  ⟨(some 69), .mov (.tmp 2), (some (63, false))⟩, 
                  ⟨(some 70), .call (.func 22) [(.tmp 67), (.tmp 68), (.tmp 69)], (some (63, false))⟩, 
                  ⟨(some 71), .pick (.tmp 63) (.const (.bool true)) (.tmp 70), none⟩, 
                  ⟨(some 6), .mov (.tmp 71), none⟩])
                .ret)
                (.seq (.region [
                  ⟨(some 73), .bin .eql .num (.tmp 10) (.const (.int .i64 10)), none⟩, 
                  ⟨(some 72), .mov (.tmp 73), none⟩])
                (.cond (.tmp 72)
                  (.seq (.region [
                    ⟨(some 74), .faddr 3 (.tmp 3), none⟩, 
                    ⟨(some 75), .load false 1 (.tmp 74), none⟩, 
                    ⟨(some 76), .iaddr 4 (.tmp 75) (.const (.int .i64 0)), none⟩, 
                    ⟨(some 77), .load true 4 (.tmp 76), none⟩, 
                    ⟨(some 78), .mov (.tmp 1), none⟩, 
                    ⟨(some 79), .mov (.tmp 2), none⟩, 
                    ⟨(some 80), .call (.func 22) [(.tmp 77), (.tmp 78), (.tmp 79)], none⟩, 
                    ⟨(some 81), .una .not (.tmp 80), none⟩, 
                    ⟨(some 82), .mov (.tmp 81), none⟩, 
                    ⟨(some 83), .faddr 3 (.tmp 3), (some (82, false))⟩, 
                    ⟨(some 84), .load false 1 (.tmp 83), (some (82, false))⟩, 
                    ⟨(some 85), .iaddr 4 (.tmp 84) (.const (.int .i64 1)), (some (82, false))⟩, 
                    ⟨(some 86), .load true 4 (.tmp 85), (some (82, false))⟩, 
                    ⟨(some 87), .mov (.tmp 1), (some (82, false))⟩, 
                    ⟨(some 88), .mov (.tmp 2), (some (82, false))⟩, 
                    ⟨(some 89), .call (.func 22) [(.tmp 86), (.tmp 87), (.tmp 88)], (some (82, false))⟩, 
                    ⟨(some 90), .pick (.tmp 82) (.const (.bool true)) (.tmp 89), none⟩, 
                    ⟨(some 6), .mov (.tmp 90), none⟩])
                  .ret)
                  .skip))))))))))))))))
  (.seq (.draw [
    ⟨0, ⟨(some 91), .faddr 3 (.tmp 3), none⟩, 0, false, false⟩, 
    ⟨1, ⟨(some 92), .load false 1 (.tmp 91), none⟩, 1, false, false⟩, 
    ⟨2, ⟨(some 93), .iaddr 4 (.tmp 92) (.const (.int .i64 0)), none⟩, 3, false, false⟩, 
    ⟨3, ⟨(some 94), .load true 4 (.tmp 93), none⟩, 7, false, false⟩, 
    ⟨4, ⟨(some 95), .mov (.tmp 1), none⟩, 0, false, false⟩, 
    ⟨5, ⟨(some 96), .mov (.tmp 2), none⟩, 0, false, false⟩, 
    ⟨6, ⟨(some 97), .call (.func 41) [(.tmp 94), (.tmp 95), (.tmp 96)], none⟩, 63, false, false⟩, 
    ⟨7, ⟨(some 98), .faddr 3 (.tmp 3), none⟩, 0, false, false⟩, 
    ⟨8, ⟨(some 99), .load false 1 (.tmp 98), none⟩, 128, false, false⟩, 
    ⟨9, ⟨(some 100), .iaddr 4 (.tmp 99) (.const (.int .i64 1)), none⟩, 384, false, false⟩, 
    ⟨10, ⟨(some 101), .load true 4 (.tmp 100), none⟩, 896, false, false⟩, 
    ⟨11, ⟨(some 102), .mov (.tmp 1), none⟩, 0, false, false⟩, 
    ⟨12, ⟨(some 103), .mov (.tmp 2), none⟩, 0, false, false⟩, 
    ⟨13, ⟨(some 104), .call (.func 41) [(.tmp 101), (.tmp 102), (.tmp 103)], none⟩, 8191, true, false⟩, 
    ⟨14, ⟨(some 7), .mov (.tmp 97), none⟩, 16383, true, false⟩, 
    ⟨15, ⟨(some 8), .mov (.tmp 104), none⟩, 32767, true, false⟩])
  (.seq (.seq (.region [
    ⟨(some 105), .faddr 0 (.tmp 3), none⟩, 
    ⟨(some 106), .load false 1 (.tmp 105), none⟩])
  (.block 1
    (.seq (.region [
      ⟨(some 108), .bin .eql .num (.tmp 106) (.const (.int .i64 11)), none⟩, 
      ⟨(some 107), .mov (.tmp 108), none⟩])
    (.cond (.tmp 107)
      (.seq (.region [
        ⟨(some 109), .mov (.tmp 7), none⟩, 
        ⟨(some 110), .mov (.tmp 8), none⟩, 
        ⟨(some 111), .bin .leq .num (.tmp 109) (.tmp 110), none⟩, 
        ⟨(some 6), .mov (.tmp 111), none⟩])
      .ret)
      (.seq (.region [
        ⟨(some 113), .bin .eql .num (.tmp 106) (.const (.int .i64 12)), none⟩, 
        ⟨(some 112), .mov (.tmp 113), none⟩])
      (.cond (.tmp 112)
        (.seq (.region [
          ⟨(some 114), .mov (.tmp 7), none⟩, 
          ⟨(some 115), .mov (.tmp 8), none⟩, 
          ⟨(some 116), .bin .lss .num (.tmp 114) (.tmp 115), none⟩, 
          ⟨(some 6), .mov (.tmp 116), none⟩])
        .ret)
        (.seq (.region [
          ⟨(some 118), .bin .eql .num (.tmp 106) (.const (.int .i64 13)), none⟩, 
          ⟨(some 117), .mov (.tmp 118), none⟩])
        (.cond (.tmp 117)
          (.seq (.region [
            ⟨(some 119), .mov (.tmp 7), none⟩, 
            ⟨(some 120), .mov (.tmp 8), none⟩, 
            ⟨(some 121), .bin .geq .num (.tmp 119) (.tmp 120), none⟩, 
            ⟨(some 6), .mov (.tmp 121), none⟩])
          .ret)
          (.seq (.region [
            ⟨(some 123), .bin .eql .num (.tmp 106) (.const (.int .i64 14)), none⟩, 
            ⟨(some 122), .mov (.tmp 123), none⟩])
          (.cond (.tmp 122)
            (.seq (.region [
              ⟨(some 124), .mov (.tmp 7), none⟩, 
              ⟨(some 125), .mov (.tmp 8), none⟩, 
              ⟨(some 126), .bin .gtr .num (.tmp 124) (.tmp 125), none⟩, 
              ⟨(some 6), .mov (.tmp 126), none⟩])
            .ret)
            .skip))))))))))
  (.seq (.region [
    ⟨(some 127), .mov (.tmp 7), none⟩, 
    ⟨(some 128), .mov (.tmp 8), none⟩, 
    ⟨(some 129), .bin .eql .num (.tmp 127) (.tmp 128), none⟩, 
    ⟨(some 6), .mov (.tmp 129), none⟩])
  .ret)))))
theorem ok22 : FnOk Try.prog 22 130 ir22 [.tmp 6] := fnOk_of mixed Try.func22 (by kernel_rfl) Try.ntmps22 (by kernel_rfl) (by kernel_rfl)

/-- (*arbac/arbacref18.builder).build -/
def ir23 : ACode :=
  (.seq (.region [
    ⟨(some 4), .alloc [(.int .i64 0), (.int .i64 0), (.slice none 0 0), (.slice none 0 0)], none⟩])
  (.seq (.seq (.region [
    ⟨(some 9), .mov (.tmp 0), none⟩, 
    ⟨(some 10), .nilck (.tmp 9), none⟩, 
    ⟨(some 11), .faddr 0 (.tmp 10), none⟩, 
    ⟨(some 12), .load false 1 (.tmp 11), none⟩, 
    ⟨(some 13), .len (.tmp 12), none⟩, 
    ⟨(some 14), .bin .eql .num (.tmp 13) (.const (.int .i64 0)), none⟩, 
    ⟨(some 15), .mov (.tmp 14), none⟩, 
    ⟨(some 16), .mov (.tmp 1), (some (15, false))⟩, 
    ⟨(some 17), .bin .leq .num (.tmp 16) (.const (.int .i64 0)), (some (15, false))⟩, 
    ⟨(some 18), .pick (.tmp 15) (.const (.bool true)) (.tmp 17), none⟩])
  (.cond (.tmp 18)
    (.seq (.region [
      ⟨(some 19), .build [(.int .i64 0), (.int .i64 0), (.slice none 0 0), (.slice none 0 0)] [(0, 1, (.const (.int .i64 2)))], none⟩, 
      ⟨none, .store 4 (.tmp 4) (.tmp 19), none⟩])
    .ret)
    .skip))
  (.seq (.region [
    ⟨(some 20), .mov (.tmp 0), none⟩, 
    ⟨(some 21), .nilck (.tmp 20), none⟩, 
    ⟨(some 22), .faddr 0 (.tmp 21), none⟩, 
    ⟨(some 23), .load false 1 (.tmp 22), none⟩, 
    ⟨(some 24), .iaddr 5 (.tmp 23) (.const (.int .i64 0)), none⟩, 
    ⟨(some 25), .load true 5 (.tmp 24), none⟩, 
    ⟨(some 5), .alloc [(.int .u8 0), (.int .u8 0), (.int .u8 0), (.bool false), (.int .i64 0)], none⟩, 
    ⟨none, .store 5 (.tmp 5) (.tmp 25), none⟩])
  (.seq (.region [
    ⟨(some 26), .mov (.tmp 0), none⟩, 
    ⟨(some 27), .mov (.tmp 0), none⟩, 
    ⟨(some 28), .nilck (.tmp 27), none⟩, 
    ⟨(some 29), .faddr 0 (.tmp 28), none⟩, 
    ⟨(some 30), .load false 1 (.tmp 29), none⟩, 
    ⟨(some 31), .slc 5 (.tmp 30) (some (.const (.int .i64 1))) none none, none⟩, 
    ⟨(some 32), .nilck (.tmp 26), none⟩, 
    ⟨(some 33), .faddr 0 (.tmp 32), none⟩, 
    ⟨none, .store 1 (.tmp 33) (.tmp 31), none⟩])
  (.seq (.region [
    ⟨(some 34), .faddr 0 (.tmp 5), none⟩, 
    ⟨(some 35), .load false 1 (.tmp 34), none⟩, 
    ⟨(some 36), .bin .rem .num (.tmp 35) (.const (.int .u8 18)), none⟩, 
    ⟨(some 37), .conv .i64 (.tmp 36), none⟩, 
    ⟨(some 38), .faddr 4 (.tmp 5), none⟩, 
    ⟨(some 39), .load false 1 (.tmp 38), none⟩, 
    ⟨(some 40), .build [(.int .i64 0), (.int .i64 0), (.slice none 0 0), (.slice none 0 0)] [(0, 1, (.tmp 37)), (1, 1, (.tmp 39))], none⟩, 
    ⟨(some 6), .alloc [(.int .i64 0), (.int .i64 0), (.slice none 0 0), (.slice none 0 0)], none⟩, 
    ⟨none, .store 4 (.tmp 6) (.tmp 40), none⟩])
  (.seq (.seq (.region [
    ⟨(some 41), .faddr 4 (.tmp 5), none⟩, 
    ⟨(some 42), .load false 1 (.tmp 41), none⟩, 
    ⟨(some 43), .bin .lss .num (.tmp 42) (.const (.int .i64 0)), none⟩, 
    ⟨(some 44), .mov (.tmp 43), none⟩, 
    ⟨(some 45), .faddr 4 (.tmp 5), (some (44, true))⟩, 
    ⟨(some 46), .load false 1 (.tmp 45), (some (44, true))⟩, 
    ⟨(some 47), .bin .gtr .num (.tmp 46) (.const (.int .i64 (-20))), (some (44, true))⟩, 
    ⟨(some 48), .pick (.tmp 44) (.tmp 47) (.const (.bool false)), none⟩, 
    ⟨(some 49), .mov (.tmp 48), none⟩, 
    ⟨(some 50), .faddr 0 (.tmp 6), (some (49, true))⟩, 
    ⟨(some 51), .load false 1 (.tmp 50), (some (49, true))⟩, 
    ⟨(some 52), .bin .neq .num (.tmp 51) (.const (.int .i64 1)), (some (49, true))⟩, 
    ⟨(some 53), .pick (.tmp 49) (.tmp 52) (.const (.bool false)), none⟩])
  (.cond (.tmp 53)
    (.region [
      ⟨(some 54), .faddr 1 (.tmp 6), none⟩, 
      ⟨none, .store 1 (.tmp 54) (.const (.int .i64 0)), none⟩])
    .skip))
  (.seq (.region [
    ⟨(some 55), .faddr 0 (.tmp 6), none⟩, 
    ⟨(some 56), .load false 1 (.tmp 55), none⟩, 
    ⟨(some 57), .call (.func 42) [(.tmp 56)], none⟩, 
    ⟨(some 7), .mov (.tmp 57), none⟩])
  (.seq (.seq (.region [
    ⟨(some 58), .faddr 1 (.tmp 5), none⟩, 
    ⟨(some 59), .load false 1 (.tmp 58), none⟩, 
    ⟨(some 60), .bin .geq .num (.tmp 59) (.const (.int .u8 250)), none⟩])
  (.cond (.tmp 60)
    (.region [
      ⟨(some 61), .faddr 1 (.tmp 5), none⟩, 
      ⟨(some 62), .load false 1 (.tmp 61), none⟩, 
      ⟨(some 63), .bin .sub .num (.tmp 62) (.const (.int .u8 250)), none⟩, 
      ⟨(some 64), .conv .i64 (.tmp 63), none⟩, 
      ⟨(some 7), .mov (.tmp 64), none⟩])
    .skip))
  (.seq (.seq (.region [
    ⟨(some 65), .faddr 0 (.tmp 6), none⟩, 
    ⟨(some 66), .load false 1 (.tmp 65), none⟩, 
    ⟨(some 67), .bin .eql .num (.tmp 66) (.const (.int .i64 4)), none⟩, 
    ⟨(some 68), .mov (.tmp 67), none⟩, 
    ⟨(some 69), .faddr 0 (.tmp 6), (some (68, false))⟩, 
    ⟨(some 70), .load false 1 (.tmp 69), (some (68, false))⟩, 
    ⟨(some 71), .bin .eql .num (.tmp 70) (.const (.int .i64 6)), (some (68, false))⟩, 
    ⟨(some 72), .pick (.tmp 68) (.const (.bool true)) (.tmp 71), none⟩, 
    ⟨(some 73), .mov (.tmp 72), none⟩, 
    ⟨(some 74), .faddr 0 (.tmp 6), (some (73, false))⟩, 
    ⟨(some 75), .load false 1 (.tmp 74), (some (73, false))⟩, 
    ⟨(some 76), .bin .eql .num (.tmp 75) (.const (.int .i64 5)), (some (73, false))⟩, 
    ⟨(some 77), .pick (.tmp 73) (.const (.bool true)) (.tmp 76), none⟩, 
    ⟨(some 78), .mov (.tmp 77), none⟩, 
    ⟨(some 79), .faddr 2 (.tmp 5), (some (78, false))⟩, 
    ⟨(some 80), .load false 1 (.tmp 79), (some (78, false))⟩, 
    ⟨(some 81), .bin .geq .num (.tmp 80) (.const (.int .u8 200)), (some (78, false))⟩, 
    ⟨(some 82), .pick (.tmp 78) (.const (.bool true)) (.tmp 81), none⟩])
  (.cond (.tmp 82)
    (.region [
      ⟨(some 83), .faddr 2 (.tmp 5), none⟩, 
      ⟨(some 84), .load false 1 (.tmp 83), none⟩, 
      ⟨(some 85), .bin .rem .num (.tmp 84) (.const (.int .u8 66)), none⟩, 
      ⟨(some 86), .conv .i64 (.tmp 85), none⟩, 
      ⟨(some 87), .bslice [(.int .i64 0)] 1 [(0, (.tmp 86))], none⟩, 
      ⟨(some 88), .faddr 2 (.tmp 6), none⟩, 
      ⟨none, .store 1 (.tmp 88) (.tmp 87), none⟩])
    .skip))
  (.seq (.seq (.region [
    ⟨(some 89), .faddr 3 (.tmp 5), none⟩, 
    ⟨(some 90), .load false 1 (.tmp 89), none⟩])
  (.cond (.tmp 90)
    (.region [
      ⟨(some 91), .faddr 2 (.tmp 6), none⟩, 
      ⟨(some 92), .load false 1 (.tmp 91), none⟩, 
      ⟨(some 93), .faddr 2 (.tmp 5), none⟩, 
      ⟨(some 94), .load false 1 (.tmp 93), none⟩, 
      ⟨(some 95), .bin .rem .num (.tmp 94) (.const (.int .u8 7)), none⟩, 
      ⟨(some 96), .conv .i64 (.tmp 95), none⟩, 
      ⟨(some 97), .bin .add .num (.const (.int .i64 1)) (.tmp 96), none⟩, 
      ⟨(some 98), .faddr 2 (.tmp 5), none⟩, 
      ⟨(some 99), .load false 1 (.tmp 98), none⟩, 
      ⟨(some 100), .bin .rem .num (.tmp 99) (.const (.int .u8 5)), none⟩, 
      ⟨(some 101), .conv .i64 (.tmp 100), none⟩, 
      ⟨(some 102), .bin .add .num (.const (.int .i64 2)) (.tmp 101), none⟩, 
      ⟨(some 103), .bslice [(.int .i64 0)] 2 [(0, (.tmp 97)), (1, (.tmp 102))], none⟩, 
      ⟨(some 104), .append [(.int .i64 0)] 8 (.tmp 92) (.tmp 103), none⟩, 
      ⟨(some 105), .faddr 2 (.tmp 6), none⟩, 
      ⟨none, .store 1 (.tmp 105) (.tmp 104), none⟩])
    .skip))
  (.seq (.seq (.region [
    ⟨(some 8), .mov (.const (.int .i64 0)), none⟩])
  (.block 0
    (.loop
      (.seq (.seq (.region [
        ⟨(some 106), .mov (.tmp 8), none⟩, 
        ⟨(some 107), .mov (.tmp 7), none⟩, 
        ⟨(some 108), .bin .lss .num (.tmp 106) (.tmp 107), none⟩])
      (.cond (.tmp 108)
        .skip
        (.exit 0)))
      (.seq (.block 1
        (.draw [
          ⟨0, ⟨(some 111), .faddr 3 (.tmp 6), none⟩, 0, true, false⟩, 
          ⟨1, ⟨(some 112), .load false 1 (.tmp 111), none⟩, 1, true, false⟩, 
          ⟨2, ⟨(some 113), .mov (.tmp 0), none⟩, 0, false, false⟩, 
          ⟨3, ⟨(some 114), .mov (.tmp 1), none⟩, 0, false, false⟩, 
          ⟨4, ⟨(some 115), .bin .sub .num (.tmp 114) (.const (.int .i64 1)), none⟩, 8, false, false⟩, 
          ⟨5, ⟨(some 116), .call (.func 23) [(.tmp 113), (.tmp 115)], none⟩, 28, false, false⟩, 
          ⟨6, ⟨(some 117), .bslice [(.int .i64 0), (.int .i64 0), (.slice none 0 0), (.slice none 0 0)] 1 [(0, (.tmp 116))], none⟩, 60, false, false⟩, 
          ⟨7, ⟨(some 118), .append [(.int .i64 0), (.int .i64 0), (.slice none 0 0), (.slice none 0 0)] 64 (.tmp 112) (.tmp 117), none⟩, 127, true, false⟩, 
          ⟨8, ⟨(some 119), .faddr 3 (.tmp 6), none⟩, 255, true, false⟩, 
          ⟨9, ⟨none, .store 1 (.tmp 119) (.tmp 118), none⟩, 511, true, false⟩]))
      (.region [
        ⟨(some 109), .mov (.tmp 8), none⟩, 
        ⟨(some 110), .bin .add .num (.tmp 109) (.const (.int .i64 1)), none⟩, 
        ⟨(some 8), .mov (.tmp 110), none⟩]))))))
  (.seq (.region [
    ⟨(some 120), .load true 4 (.tmp 6), none⟩, 
    ⟨none, .store 4 (.tmp 4) (.tmp 120), none⟩])
  .ret))))))))))))
theorem ok23 : FnOk Try.prog 23 121 ir23 [.cell 4 true 4] := fnOk_of mixed Try.func23 (by kernel_rfl) Try.ntmps23 (by kernel_rfl) (by kernel_rfl)

/-- arbac/arbaclaw20.few$1 -/
def ir24 : ACode :=
  (.seq (.region [
    ⟨(some 2), .alloc [(.int .u8 0), (.int .i64 0), (.slice none 0 0), (.slice none 0 0)], none⟩])
  (.seq (.region [
    ⟨(some 3), .mov (.tmp 0), none⟩, 
    ⟨(some 4), .build [(.int .u8 0), (.int .i64 0), (.slice none 0 0), (.slice none 0 0)] [(0, 1, (.const (.int .u8 1))), (1, 1, (.tmp 3))], none⟩, 
    ⟨none, .store 4 (.tmp 2) (.tmp 4), none⟩])
  .ret))
theorem ok24 : FnOk Try.prog 24 5 ir24 [.cell 2 true 4] := fnOk_of mixed Try.func24 (by kernel_rfl) Try.ntmps24 (by kernel_rfl) (by kernel_rfl)

/-- arbac/arbaclaw20.few$2 -/
def ir25 : ACode :=
  (.seq (.region [
    ⟨(some 2), .alloc [(.int .u8 0), (.int .i64 0), (.slice none 0 0), (.slice none 0 0)], none⟩])
  (.seq (.region [
    ⟨(some 3), .mov (.tmp 0), none⟩, 
    ⟨(some 4), .bslice [(.int .i64 0)] 1 [(0, (.tmp 3))], none⟩, 
    ⟨(some 5), .build [(.int .u8 0), (.int .i64 0), (.slice none 0 0), (.slice none 0 0)] [(0, 1, (.const (.int .u8 6))), (2, 1, (.tmp 4))], none⟩, 
    ⟨none, .store 4 (.tmp 2) (.tmp 5), none⟩])
  .ret))
theorem ok25 : FnOk Try.prog 25 6 ir25 [.cell 2 true 4] := fnOk_of mixed Try.func25 (by kernel_rfl) Try.ntmps25 (by kernel_rfl) (by kernel_rfl)

/-- arbac/arbaclaw20.few$3 -/
def ir26 : ACode :=
  (.seq (.region [
    ⟨(some 2), .alloc [(.int .u8 0), (.int .i64 0), (.slice none 0 0), (.slice none 0 0)], none⟩])
  (.seq (.region [
    ⟨(some 3), .mov (.tmp 0), none⟩, 
    ⟨(some 4), .bslice [(.int .i64 0)] 1 [(0, (.tmp 3))], none⟩, 
    ⟨(some 5), .build [(.int .u8 0), (.int .i64 0), (.slice none 0 0), (.slice none 0 0)] [(0, 1, (.const (.int .u8 4))), (2, 1, (.tmp 4))], none⟩, 
    ⟨none, .store 4 (.tmp 2) (.tmp 5), none⟩])
  .ret))
theorem ok26 : FnOk Try.prog 26 6 ir26 [.cell 2 true 4] := fnOk_of mixed Try.func26 (by kernel_rfl) Try.ntmps26 (by kernel_rfl) (by kernel_rfl)

/-- arbac/bits.trim -/
def ir27 : ACode :=
  (.seq (.region [
    ⟨(some 2), .alloc [(.slice none 0 0)], none⟩])
  (.seq (.block 0
    (.loop
      (.seq (.seq (.region [
        ⟨(some 3), .mov (.tmp 0), none⟩, 
        ⟨(some 4), .len (.tmp 3), none⟩, 
        ⟨(some 5), .bin .gtr .num (.tmp 4) (.const (.int .i64 0)), none⟩, 
        ⟨(some 6), .mov (.tmp 5), none⟩, 
        ⟨(some 7), .mov (.tmp 0), (some (6, true))⟩, 
        ⟨(some 8), .mov (.tmp 0), (some (6, true))⟩, 
        ⟨(some 9), .len (.tmp 8), (some (6, true))⟩, 
        ⟨(some 10), .bin .sub .num (.tmp 9) (.const (.int .i64 1)), (some (6, true))⟩, 
        ⟨(some 11), .iaddr 1 (.tmp 7) (.tmp 10), (some (6, true))⟩, 
        ⟨(some 12), .load false 1 (.tmp 11), (some (6, true))⟩, 
        ⟨(some 13), .bin .eql .num (.tmp 12) (.const (.int .u64 0)), (some (6, true))⟩, 
        ⟨(some 14), .pick (.tmp 6) (.tmp 13) (.const (.bool false)), none⟩])
      (.cond (.tmp 14)
        .skip
        (.exit 0)))
      (.block 1
        (.region [
          ⟨(some 15), .mov (.tmp 0), none⟩, 
          ⟨(some 16), .mov (.tmp 0), none⟩, 
          ⟨(some 17), .len (.tmp 16), none⟩, 
          ⟨(some 18), .bin .sub .num (.tmp 17) (.const (.int .i64 1)), none⟩, 
          ⟨(some 19), .slc 1 (.tmp 15) none (some (.tmp 18)) none, none⟩, 
          ⟨(some 0), .mov (.tmp 19), none⟩])))))
  (.seq (.region [
    ⟨(some 20), .mov (.tmp 0), none⟩, 
    ⟨(some 21), .build [(.slice none 0 0)] [(0, 1, (.tmp 20))], none⟩, 
    ⟨none, .store 1 (.tmp 2) (.tmp 21), none⟩])
  .ret)))
theorem ok27 : FnOk Try.prog 27 22 ir27 [.cell 2 true 1] := fnOk_of mixed Try.func27 (by kernel_rfl) Try.ntmps27 (by kernel_rfl) (by kernel_rfl)

/-- (*arbac/arbacref18.source).next -/
def ir28 : ACode :=
  (.seq (.region [
    ⟨(some 2), .mov (.const (.int .i64 0)), none⟩])
  (.seq (.region [
    ⟨(some 3), .mov (.tmp 0), none⟩, 
    ⟨(some 4), .nilck (.tmp 3), none⟩, 
    ⟨(some 5), .faddr 1 (.tmp 4), none⟩, 
    ⟨(some 6), .load false 1 (.tmp 5), none⟩, 
    ⟨(some 7), .bin .add .num (.tmp 6) (.const (.int .i64 1)), none⟩, 
    ⟨(some 8), .nilck (.tmp 3), none⟩, 
    ⟨(some 9), .faddr 1 (.tmp 8), none⟩, 
    ⟨none, .store 1 (.tmp 9) (.tmp 7), none⟩])
  (.seq (.seq (.draw [
    ⟨0, ⟨(some 10), .mov (.tmp 0), none⟩, 0, false, false⟩, 
    ⟨1, ⟨(some 11), .nilck (.tmp 10), none⟩, 1, false, false⟩, 
    ⟨2, ⟨(some 12), .faddr 1 (.tmp 11), none⟩, 3, false, false⟩, 
    ⟨3, ⟨(some 13), .load false 1 (.tmp 12), none⟩, 7, false, false⟩, 
    ⟨4, ⟨(some 14), .mov (.tmp 0), none⟩, 0, false, false⟩, 
    ⟨5, ⟨(some 15), .nilck (.tmp 14), none⟩, 16, false, false⟩, 
    ⟨6, ⟨(some 16), .faddr 0 (.tmp 15), none⟩, 48, false, false⟩, 
    ⟨7, ⟨(some 17), .load false 1 (.tmp 16), none⟩, 112, false, false⟩, 
    ⟨8, ⟨(some 18), .len (.tmp 17), none⟩, 240, false, false⟩, 
    ⟨9, ⟨(some 19), .bin .gtr .num (.tmp 13) (.tmp 18), none⟩, 511, true, false⟩])
  (.cond (.tmp 19)
    (.seq (.region [
      ⟨(some 2), .mov (.const (.int .i64 0)), none⟩])
    .ret)
    .skip))
  (.seq (.draw [
    ⟨0, ⟨(some 20), .mov (.tmp 0), none⟩, 0, false, false⟩, 
    ⟨1, ⟨(some 21), .nilck (.tmp 20), none⟩, 1, false, false⟩, 
    ⟨2, ⟨(some 22), .faddr 0 (.tmp 21), none⟩, 3, false, false⟩, 
    ⟨3, ⟨(some 23), .load false 1 (.tmp 22), none⟩, 7, false, false⟩, 
    ⟨4, ⟨(some 24), .mov (.tmp 0), none⟩, 0, false, false⟩, 
    ⟨5, ⟨(some 25), .nilck (.tmp 24), none⟩, 16, false, false⟩, 
    ⟨6, ⟨(some 26), .faddr 1 (.tmp 25), none⟩, 48, false, false⟩, 
    ⟨7, ⟨(some 27), .load false 1 (.tmp 26), none⟩, 112, false, false⟩, 
    ⟨8, ⟨(some 28), .bin .sub .num (.tmp 27) (.const (.int .i64 1)), none⟩, 240, false, false⟩, 
    ⟨9, ⟨(some 29), .iaddr 1 (.tmp 23) (.tmp 28), none⟩, 511, true, false⟩, 
    ⟨10, ⟨(some 30), .load false 1 (.tmp 29), none⟩, 1023, true, false⟩, 
    ⟨11, ⟨(some 31), .conv .i64 (.tmp 30), none⟩, 2047, true, false⟩, 
    ⟨12, ⟨(some 2), .mov (.tmp 31), none⟩, 4095, true, false⟩])
  .ret))))
theorem ok28 : FnOk Try.prog 28 32 ir28 [.tmp 2] := fnOk_of mixed Try.func28 (by kernel_rfl) Try.ntmps28 (by kernel_rfl) (by kernel_rfl)

/-- (*arbac/arbacref18.source).compare -/
def ir29 : ACode :=
  (.seq (.region [
    ⟨(some 10), .alloc [(.int .i64 0), (.int .i64 0), (.slice none 0 0), (.slice none 0 0)], none⟩])
  (.seq (.region [
    ⟨(some 13), .mov (.tmp 0), none⟩, 
    ⟨(some 14), .mov (.tmp 2), none⟩, 
    ⟨(some 15), .bin .sub .num (.tmp 14) (.const (.int .i64 1)), none⟩, 
    ⟨(some 16), .mov (.tmp 3), none⟩, 
    ⟨(some 17), .mov (.tmp 4), none⟩, 
    ⟨(some 18), .call (.func 43) [(.tmp 13), (.tmp 15), (.tmp 16), (.tmp 17)], none⟩, 
    ⟨(some 11), .alloc [(.int .i64 0), (.int .i64 0), (.slice none 0 0), (.slice none 0 0)], none⟩, 
    ⟨none, .store 4 (.tmp 11) (.tmp 18), none⟩])
  (.seq (.region [
    ⟨(some 19), .mov (.tmp 0), none⟩, 
    ⟨(some 20), .mov (.tmp 2), none⟩, 
    ⟨(some 21), .bin .sub .num (.tmp 20) (.const (.int .i64 1)), none⟩, 
    ⟨(some 22), .mov (.tmp 3), none⟩, 
    ⟨(some 23), .mov (.tmp 4), none⟩, 
    ⟨(some 24), .call (.func 43) [(.tmp 19), (.tmp 21), (.tmp 22), (.tmp 23)], none⟩, 
    ⟨(some 12), .alloc [(.int .i64 0), (.int .i64 0), (.slice none 0 0), (.slice none 0 0)], none⟩, 
    ⟨none, .store 4 (.tmp 12) (.tmp 24), none⟩])
  (.seq (.region [
    ⟨(some 25), .mov (.tmp 1), none⟩, 
    ⟨(some 26), .bin .rem .num (.tmp 25) (.const (.int .i64 5)), none⟩, 
    ⟨(some 27), .bin .add .num (.const (.int .i64 11)) (.tmp 26), none⟩, 
    ⟨(some 28), .load true 4 (.tmp 11), none⟩, 
    ⟨(some 29), .load true 4 (.tmp 12), none⟩, 
    ⟨(some 30), .bslice [(.int .i64 0), (.int .i64 0), (.slice none 0 0), (.slice none 0 0)] 2 [(0, (.tmp 28)), (1, (.tmp 29))], none⟩, 
    ⟨(some 31), .build [(.int .i64 0), (.int .i64 0), (.slice none 0 0), (.slice none 0 0)] [(0, 1, (.tmp 27)), (3, 1, (.tmp 30))], none⟩, 
    ⟨none, .store 4 (.tmp 10) (.tmp 31), none⟩])
  .ret))))
theorem ok29 : FnOk Try.prog 29 32 ir29 [.cell 10 true 4] := fnOk_of mixed Try.func29 (by kernel_rfl) Try.ntmps29 (by kernel_rfl) (by kernel_rfl)

/-- (arbac/formula.Formula).look -/
def ir30 : ACode :=
  (.seq (.region [
    ⟨(some 2), .box (.tmp 0), none⟩, 
    ⟨(some 4), .mov (.const (.int .i64 0)), none⟩])
  (.seq (.region [
    ⟨(some 8), .load true 4 (.tmp 2), none⟩, 
    ⟨(some 9), .call (.func 44) [(.tmp 8)], none⟩, 
    ⟨(some 7), .mov (.tmp 9), none⟩, 
    ⟨(some 10), .extract (.tmp 7) 0, none⟩, 
    ⟨(some 11), .extract (.tmp 7) 1, none⟩, 
    ⟨(some 5), .mov (.tmp 10), none⟩, 
    ⟨(some 6), .mov (.tmp 11), none⟩])
  (.seq (.seq (.region [
    ⟨(some 12), .mov (.tmp 5), none⟩, 
    ⟨(some 13), .bin .gtr .num (.tmp 12) (.const (.int .i64 10)), none⟩, 
    ⟨(some 14), .mov (.tmp 13), none⟩, 
    ⟨(some 15), .mov (.tmp 6), (some (14, false))⟩, 
    ⟨(some 16), .bin .gtr .num (.tmp 15) (.const (.int .i64 200)), (some (14, false))⟩, 
    ⟨(some 17), .pick (.tmp 14) (.const (.bool true)) (.tmp 16), none⟩])
  (.cond (.tmp 17)
    (.seq (.region [
      ⟨(some 4), .mov (.const (.int .i64 3)), none⟩])
    .ret)
    .skip))
  (.seq (.region [
    ⟨(some 18), .load true 4 (.tmp 2), none⟩, 
    ⟨(some 19), .mov (.tmp 1), none⟩, 
    ⟨(some 20), .call (.func 45) [(.tmp 18), (.tmp 19)], none⟩, 
    ⟨(some 4), .mov (.tmp 20), none⟩])
  .ret))))
theorem ok30 : FnOk Try.prog 30 21 ir30 [.tmp 4] := fnOk_of mixed Try.func30 (by kernel_rfl) Try.ntmps30 (by kernel_rfl) (by kernel_rfl)

/-- (arbac/formula.Formula).fits -/
def ir31 : ACode :=
  (.seq (.region [
    ⟨(some 1), .box (.tmp 0), none⟩, 
    ⟨(some 2), .mov (.const (.bool false)), none⟩])
  (.seq (.region [
    ⟨(some 3), .mov (.const (.int .u8 1)), none⟩])
  (.seq (.seq (.region [
    ⟨(some 6), .faddr 0 (.tmp 1), none⟩, 
    ⟨(some 7), .load false 1 (.tmp 6), none⟩, 
    ⟨(some 8), .bin .geq .num (.tmp 7) (.const (.int .u8 11)), none⟩])
  (.cond (.tmp 8)
    (.region [
      ⟨(some 3), .mov (.const (.int .u8 2)), none⟩])
    .skip))
  (.seq (.seq (.region [
    ⟨(some 9), .faddr 3 (.tmp 1), none⟩, 
    ⟨(some 10), .load false 1 (.tmp 9), none⟩, 
    ⟨(some 11), .len (.tmp 10), none⟩, 
    ⟨(some 12), .mov (.const (.int .i64 0)), none⟩])
  (.block 0
    (.loop
      (.seq (.region [
        ⟨(some 13), .bin .lss .num (.tmp 12) (.tmp 11), none⟩])
      (.seq (.cond (.tmp 13)
        .skip
        (.exit 0))
      (.seq (.block 1
        (.seq (.region [
          ⟨(some 14), .iaddr 4 (.tmp 10) (.tmp 12), none⟩, 
          ⟨(some 15), .load true 4 (.tmp 14), none⟩, 
          ⟨(some 5), .alloc [(.int .u8 0), (.int .i64 0), (.slice none 0 0), (.slice none 0 0)], none⟩, 
          ⟨none, .store 4 (.tmp 5) (.tmp 15), none⟩])
        (.seq (.region [
          ⟨(some 16), .faddr 0 (.tmp 5), none⟩, 
          ⟨(some 17), .load false 1 (.tmp 16), none⟩, 
          ⟨(some 18), .call (.func 32) [(.tmp 17)], none⟩, 
          ⟨(some 19), .mov (.tmp 3), none⟩, 
          ⟨(some 20), .bin .neq .num (.tmp 18) (.tmp 19), none⟩, 
          ⟨(some 21), .mov (.tmp 20), none⟩, 
          ⟨(some 22), .load true 4 (.tmp 5), (some (21, false))⟩, 
          ⟨(some 23), .call (.func 31) [(.tmp 22)], (some (21, false))⟩, 
          ⟨(some 24), .una .not (.tmp 23), (some (21, false))⟩, 
          ⟨(some 25), .pick (.tmp 21) (.const (.bool true)) (.tmp 24), none⟩])
        (.cond (.tmp 25)
          (.seq (.region [
            ⟨(some 2), .mov (.const (.bool false)), none⟩])
          .ret)
          .skip))))
      (.region [
        ⟨(some 26), .bin .add .num (.tmp 12) (.const (.int .i64 1)), none⟩, 
        ⟨(some 12), .mov (.tmp 26), none⟩])))))))
  (.seq (.region [
    ⟨(some 2), .mov (.const (.bool true)), none⟩])
  .ret)))))
theorem ok31 : FnOk Try.prog 31 27 ir31 [.tmp 2] := fnOk_of mixed Try.func31 (by kernel_rfl) Try.ntmps31 (by kernel_rfl) (by kernel_rfl)

/-- arbac/formula.result -/
def ir32 : ACode :=
  (.seq (.region [
    ⟨(some 2), .mov (.const (.int .u8 0)), none⟩])
  (.seq (.seq (.region [
    ⟨(some 3), .mov (.tmp 0), none⟩])
  (.block 0
    (.seq (.seq (.region [
      ⟨(some 5), .bin .eql .num (.tmp 3) (.const (.int .u8 1)), none⟩, 
      ⟨(some 4), .mov (.tmp 5), none⟩])
    (.cond (.tmp 4)
      .skip
      (.seq (.region [
        ⟨(some 6), .bin .eql .num (.tmp 3) (.const (.int .u8 5)), none⟩, 
        ⟨(some 4), .mov (.tmp 6), none⟩])
      (.cond (.tmp 4)
        .skip
        (.seq (.region [
          ⟨(some 7), .bin .eql .num (.tmp 3) (.const (.int .u8 6)), none⟩, 
          ⟨(some 4), .mov (.tmp 7), none⟩])
        (.cond (.tmp 4)
          .skip
          (.region [
            ⟨(some 8), .bin .eql .num (.tmp 3) (.const (.int .u8 16)), none⟩, 
            ⟨(some 4), .mov (.tmp 8), none⟩])))))))
    (.cond (.tmp 4)
      (.seq (.region [
        ⟨(some 2), .mov (.const (.int .u8 2)), none⟩])
      .ret)
      .skip))))
  (.seq (.region [
    ⟨(some 2), .mov (.const (.int .u8 1)), none⟩])
  .ret)))
theorem ok32 : FnOk Try.prog 32 9 ir32 [.tmp 2] := fnOk_of mixed Try.func32 (by kernel_rfl) Try.ntmps32 (by kernel_rfl) (by kernel_rfl)

/-- arbac/meaning.flag -/
def ir33 : ACode :=
  (.seq (.region [
    ⟨(some 2), .mov (.const (.int .i64 0)), none⟩])
  (.seq (.seq (.region [
    ⟨(some 3), .mov (.tmp 0), none⟩])
  (.cond (.tmp 3)
    (.seq (.region [
      ⟨(some 2), .mov (.const (.int .i64 1)), none⟩])
    .ret)
    .skip))
  (.seq (.region [
    ⟨(some 2), .mov (.const (.int .i64 0)), none⟩])
  .ret)))
theorem ok33 : FnOk Try.prog 33 4 ir33 [.tmp 2] := fnOk_of mixed Try.func33 (by kernel_rfl) Try.ntmps33 (by kernel_rfl) (by kernel_rfl)

/-- (arbac/bits.Set).Has -/
def ir34 : ACode :=
  (.seq (.region [
    ⟨(some 2), .box (.tmp 0), none⟩, 
    ⟨(some 4), .mov (.const (.bool false)), none⟩])
  (.seq (.region [
    ⟨(some 5), .mov (.tmp 1), none⟩, 
    ⟨(some 6), .bin .geq .num (.tmp 5) (.const (.int .i64 0)), none⟩, 
    ⟨(some 7), .mov (.tmp 6), none⟩, 
    ⟨(some 8), .mov (.tmp 1), (some (7, true))⟩, 
    ⟨(some 9), .bin .leq .num (.tmp 8) (.const (.int .i64 4095)), (some (7, true))⟩, 
    ⟨(some 10), .pick (.tmp 7) (.tmp 9) (.const (.bool false)), none⟩, 
    ⟨(some 11), .mov (.tmp 10), none⟩, 
    ⟨(some 12), .load true 1 (.tmp 2), (some (11, true))⟩, 
    ⟨(some 13), .mov (.tmp 1), (some (11, true))⟩, 
    ⟨(some 14), .bin .quo .num (.tmp 13) (.const (.int .i64 64)), (some (11, true))⟩, 
    ⟨(some 15), .call (.func 46) [(.tmp 12), (.tmp 14)], (some (11, true))⟩, 
    ⟨(some 16), .mov (.tmp 1), (some (11, true))⟩, 
    ⟨(some 17), .bin .rem .num (.tmp 16) (.const (.int .i64 64)), (some (11, true))⟩, 
    ⟨(some 18), .bin .shr .num (.tmp 15) (.tmp 17), (some (11, true))⟩, 
    ⟨(some 19), .bin .and .num (.tmp 18) (.const (.int .u64 1)), (some (11, true))⟩, 
    ⟨(some 20), .bin .eql .num (.tmp 19) (.const (.int .u64 1)), (some (11, true))⟩, 
    ⟨(some 21), .pick (.tmp 11) (.tmp 20) (.const (.bool false)), none⟩, 
    ⟨(some 4), .mov (.tmp 21), none⟩])
  .ret))
theorem ok34 : FnOk Try.prog 34 22 ir34 [.tmp 4] := fnOk_of mixed Try.func34 (by kernel_rfl) Try.ntmps34 (by kernel_rfl) (by kernel_rfl)

/-- (arbac/meaning.world).count -/
def ir35 : ACode :=
  (.seq (.region [
    ⟨(some 2), .box (.tmp 0), none⟩, 
    ⟨(some 4), .mov (.const (.int .i64 0)), none⟩])
  (.seq (.seq (.region [
    ⟨(some 5), .mov (.tmp 1), none⟩, 
    ⟨(some 6), .bin .lss .num (.tmp 5) (.const (.int .i64 0)), none⟩, 
    ⟨(some 7), .mov (.tmp 6), none⟩, 
    ⟨(some 8), .mov (.tmp 1), (some (7, false))⟩, 
    ⟨(some 9), .faddr 1 (.tmp 2), (some (7, false))⟩, 
    ⟨(some 10), .load false 1 (.tmp 9), (some (7, false))⟩, 
    ⟨(some 11), .len (.tmp 10), (some (7, false))⟩, 
    ⟨(some 12), .bin .geq .num (.tmp 8) (.tmp 11), (some (7, false))⟩, 
    ⟨(some 13), .pick (.tmp 7) (.const (.bool true)) (.tmp 12), none⟩, 
    ⟨(some 14), .mov (.tmp 13), none⟩, 
    ⟨(some 15), .faddr 1 (.tmp 2), (some (14, false))⟩, 
    ⟨(some 16), .load false 1 (.tmp 15), (some (14, false))⟩, 
    ⟨(some 17), .mov (.tmp 1), (some (14, false))⟩, 
    ⟨(some 18), .iaddr 1 (.tmp 16) (.tmp 17), (some (14, false))⟩, 
    ⟨(some 19), .load false 1 (.tmp 18), (some (14, false))⟩, 
    ⟨(some 20), .bin .lss .num (.tmp 19) (.const (.int .i64 0)), (some (14, false))⟩, 
    ⟨(some 21), .pick (.tmp 14) (.const (.bool true)) (.tmp 20), none⟩, 
    ⟨(some 22), .mov (.tmp 21), none⟩, 
    ⟨(some 23), .faddr 1 (.tmp 2), (some (22, false))⟩, 
    ⟨(some 24), .load false 1 (.tmp 23), (some (22, false))⟩, 
    ⟨(some 25), .mov (.tmp 1), (some (22, false))⟩, 
    ⟨(some 26), .iaddr 1 (.tmp 24) (.tmp 25), (some (22, false))⟩, 
    ⟨(some 27), .load false 1 (.tmp 26), (some (22, false))⟩, 
    ⟨(some 28), .bin .gtr .num (.tmp 27) (.const (.int .i64 256)), (some (22, false))⟩, 
    ⟨(some 29), .pick (.tmp 22) (.const (.bool true)) (.tmp 28), none⟩])
  (.cond (.tmp 29)
    (.seq (.region [
      ⟨(some 4), .mov (.const (.int .i64 0)), none⟩])
    .ret)
    .skip))
  (.seq (.region [
    ⟨(some 30), .faddr 1 (.tmp 2), none⟩, 
    ⟨(some 31), .load false 1 (.tmp 30), none⟩, 
    ⟨(some 32), .mov (.tmp 1), none⟩, 
    ⟨(some 33), .iaddr 1 (.tmp 31) (.tmp 32), none⟩, 
    ⟨(some 34), .load false 1 (.tmp 33), none⟩, 
    ⟨(some 4), .mov (.tmp 34), none⟩])
  .ret)))
theorem ok35 : FnOk Try.prog 35 35 ir35 [.tmp 4] := fnOk_of mixed Try.func35 (by kernel_rfl) Try.ntmps35 (by kernel_rfl) (by kernel_rfl)

/-- arbac/arbacref18.Depth -/
def ir36 : ACode :=
  (.seq (.region [
    ⟨(some 1), .box (.tmp 0), none⟩, 
    ⟨(some 2), .mov (.const (.int .i64 0)), none⟩])
  (.seq (.region [
    ⟨(some 3), .mov (.const (.int .i64 0)), none⟩])
  (.seq (.seq (.region [
    ⟨(some 6), .faddr 3 (.tmp 1), none⟩, 
    ⟨(some 7), .load false 1 (.tmp 6), none⟩, 
    ⟨(some 8), .len (.tmp 7), none⟩, 
    ⟨(some 9), .mov (.const (.int .i64 0)), none⟩])
  (.block 0
    (.loop
      (.seq (.region [
        ⟨(some 10), .bin .lss .num (.tmp 9) (.tmp 8), none⟩])
      (.seq (.cond (.tmp 10)
        .skip
        (.exit 0))
      (.seq (.block 1
        (.seq (.region [
          ⟨(some 11), .iaddr 4 (.tmp 7) (.tmp 9), none⟩, 
          ⟨(some 12), .load true 4 (.tmp 11), none⟩, 
          ⟨(some 5), .alloc [(.int .i64 0), (.int .i64 0), (.slice none 0 0), (.slice none 0 0)], none⟩, 
          ⟨none, .store 4 (.tmp 5) (.tmp 12), none⟩])
        (.region [
          ⟨(some 13), .mov (.tmp 3), none⟩, 
          ⟨(some 14), .load true 4 (.tmp 5), none⟩, 
          ⟨(some 15), .call (.func 36) [(.tmp 14)], none⟩, 
          ⟨(some 16), .mx (.tmp 13) (.tmp 15), none⟩, 
          ⟨(some 3), .mov (.tmp 16), none⟩])))
      (.region [
        ⟨(some 17), .bin .add .num (.tmp 9) (.const (.int .i64 1)), none⟩, 
        ⟨(some 9), .mov (.tmp 17), none⟩])))))))
  (.seq (.region [
    ⟨(some 18), .mov (.tmp 3), none⟩, 
    ⟨(some 19), .bin .add .num (.tmp 18) (.const (.int .i64 1)), none⟩, 
    ⟨(some 2), .mov (.tmp 19), none⟩])
  .ret))))
theorem ok36 : FnOk Try.prog 36 20 ir36 [.tmp 2] := fnOk_of mixed Try.func36 (by kernel_rfl) Try.ntmps36 (by kernel_rfl) (by kernel_rfl)

/-- arbac/arbacref18.Size -/
def ir37 : ACode :=
  (.seq (.region [
    ⟨(some 1), .box (.tmp 0), none⟩, 
    ⟨(some 2), .mov (.const (.int .i64 0)), none⟩])
  (.seq (.region [
    ⟨(some 3), .mov (.const (.int .i64 1)), none⟩])
  (.seq (.seq (.region [
    ⟨(some 6), .faddr 3 (.tmp 1), none⟩, 
    ⟨(some 7), .load false 1 (.tmp 6), none⟩, 
    ⟨(some 8), .len (.tmp 7), none⟩, 
    ⟨(some 9), .mov (.const (.int .i64 0)), none⟩])
  (.block 0
    (.loop
      (.seq (.region [
        ⟨(some 10), .bin .lss .num (.tmp 9) (.tmp 8), none⟩])
      (.seq (.cond (.tmp 10)
        .skip
        (.exit 0))
      (.seq (.block 1
        (.seq (.region [
          ⟨(some 11), .iaddr 4 (.tmp 7) (.tmp 9), none⟩, 
          ⟨(some 12), .load true 4 (.tmp 11), none⟩, 
          ⟨(some 5), .alloc [(.int .i64 0), (.int .i64 0), (.slice none 0 0), (.slice none 0 0)], none⟩, 
          ⟨none, .store 4 (.tmp 5) (.tmp 12), none⟩])
        (.region [
          ⟨(some 13), .mov (.tmp 3), none⟩, 
          ⟨(some 14), .load true 4 (.tmp 5), none⟩, 
          ⟨(some 15), .call (.func 37) [(.tmp 14)], none⟩, 
          ⟨(some 16), .bin .add .num (.tmp 13) (.tmp 15), none⟩, 
          ⟨(some 3), .mov (.tmp 16), none⟩])))
      (.region [
        ⟨(some 17), .bin .add .num (.tmp 9) (.const (.int .i64 1)), none⟩, 
        ⟨(some 9), .mov (.tmp 17), none⟩])))))))
  (.seq (.region [
    ⟨(some 18), .mov (.tmp 3), none⟩, 
    ⟨(some 2), .mov (.tmp 18), none⟩])
  .ret))))
theorem ok37 : FnOk Try.prog 37 19 ir37 [.tmp 2] := fnOk_of mixed Try.func37 (by kernel_rfl) Try.ntmps37 (by kernel_rfl) (by kernel_rfl)

/-- arbac/arbacref18.inside -/
def ir38 : ACode :=
  (.seq (.region [
    ⟨(some 2), .box (.tmp 0), none⟩, 
    ⟨(some 4), .mov (.const (.int .i64 0)), none⟩])
  (.seq (.region [
    ⟨(some 8), .load true 4 (.tmp 2), none⟩, 
    ⟨(some 9), .mov (.tmp 1), none⟩, 
    ⟨(some 10), .call (.func 47) [(.tmp 8), (.tmp 9)], none⟩, 
    ⟨(some 5), .mov (.tmp 10), none⟩])
  (.seq (.seq (.region [
    ⟨(some 11), .mov (.tmp 5), none⟩, 
    ⟨(some 12), .bin .neq .num (.tmp 11) (.const (.int .i64 0)), none⟩])
  (.cond (.tmp 12)
    (.seq (.region [
      ⟨(some 13), .mov (.tmp 5), none⟩, 
      ⟨(some 4), .mov (.tmp 13), none⟩])
    .ret)
    .skip))
  (.seq (.seq (.region [
    ⟨(some 14), .faddr 3 (.tmp 2), none⟩, 
    ⟨(some 15), .load false 1 (.tmp 14), none⟩, 
    ⟨(some 16), .len (.tmp 15), none⟩, 
    ⟨(some 17), .mov (.const (.int .i64 0)), none⟩])
  (.block 0
    (.loop
      (.seq (.region [
        ⟨(some 18), .bin .lss .num (.tmp 17) (.tmp 16), none⟩])
      (.seq (.cond (.tmp 18)
        .skip
        (.exit 0))
      (.seq (.block 1
        (.seq (.region [
          ⟨(some 19), .iaddr 4 (.tmp 15) (.tmp 17), none⟩, 
          ⟨(some 20), .load true 4 (.tmp 19), none⟩, 
          ⟨(some 7), .alloc [(.int .i64 0), (.int .i64 0), (.slice none 0 0), (.slice none 0 0)], none⟩, 
          ⟨none, .store 4 (.tmp 7) (.tmp 20), none⟩])
        (.seq (.region [
          ⟨(some 21), .load true 4 (.tmp 7), none⟩, 
          ⟨(some 22), .mov (.tmp 1), none⟩, 
          ⟨(some 23), .call (.func 38) [(.tmp 21), (.tmp 22)], none⟩, 
          ⟨(some 5), .mov (.tmp 23), none⟩])
        (.seq (.region [
          ⟨(some 24), .mov (.tmp 5), none⟩, 
          ⟨(some 25), .bin .neq .num (.tmp 24) (.const (.int .i64 0)), none⟩])
        (.cond (.tmp 25)
          (.seq (.region [
            ⟨(some 26), .mov (.tmp 5), none⟩, 
            ⟨(some 4), .mov (.tmp 26), none⟩])
          .ret)
          .skip)))))
      (.region [
        ⟨(some 27), .bin .add .num (.tmp 17) (.const (.int .i64 1)), none⟩, 
        ⟨(some 17), .mov (.tmp 27), none⟩])))))))
  (.seq (.region [
    ⟨(some 4), .mov (.const (.int .i64 0)), none⟩])
  .ret)))))
theorem ok38 : FnOk Try.prog 38 28 ir38 [.tmp 4] := fnOk_of mixed Try.func38 (by kernel_rfl) Try.ntmps38 (by kernel_rfl) (by kernel_rfl)

/-- arbac/arbacref18.fits -/
def ir39 : ACode :=
  (.seq (.region [
    ⟨(some 1), .box (.tmp 0), none⟩, 
    ⟨(some 2), .mov (.const (.bool false)), none⟩])
  (.seq (.region [
    ⟨(some 3), .mov (.const (.int .i64 1)), none⟩])
  (.seq (.seq (.region [
    ⟨(some 6), .faddr 0 (.tmp 1), none⟩, 
    ⟨(some 7), .load false 1 (.tmp 6), none⟩, 
    ⟨(some 8), .bin .geq .num (.tmp 7) (.const (.int .i64 11)), none⟩])
  (.cond (.tmp 8)
    (.region [
      ⟨(some 3), .mov (.const (.int .i64 2)), none⟩])
    .skip))
  (.seq (.seq (.region [
    ⟨(some 9), .faddr 3 (.tmp 1), none⟩, 
    ⟨(some 10), .load false 1 (.tmp 9), none⟩, 
    ⟨(some 11), .len (.tmp 10), none⟩, 
    ⟨(some 12), .mov (.const (.int .i64 0)), none⟩])
  (.block 0
    (.loop
      (.seq (.region [
        ⟨(some 13), .bin .lss .num (.tmp 12) (.tmp 11), none⟩])
      (.seq (.cond (.tmp 13)
        .skip
        (.exit 0))
      (.seq (.block 1
        (.seq (.region [
          ⟨(some 14), .iaddr 4 (.tmp 10) (.tmp 12), none⟩, 
          ⟨(some 15), .load true 4 (.tmp 14), none⟩, 
          ⟨(some 5), .alloc [(.int .i64 0), (.int .i64 0), (.slice none 0 0), (.slice none 0 0)], none⟩, 
          ⟨none, .store 4 (.tmp 5) (.tmp 15), none⟩])
        (.seq (.region [
          ⟨(some 16), .faddr 0 (.tmp 5), none⟩, 
          ⟨(some 17), .load false 1 (.tmp 16), none⟩, 
          ⟨(some 18), .call (.func 40) [(.tmp 17)], none⟩, 
          ⟨(some 19), .mov (.tmp 3), none⟩, 
          ⟨(some 20), .bin .neq .num (.tmp 18) (.tmp 19), none⟩, 
          ⟨(some 21), .mov (.tmp 20), none⟩, 
          ⟨(some 22), .load true 4 (.tmp 5), (some (21, false))⟩, 
          ⟨(some 23), .call (.func 39) [(.tmp 22)], (some (21, false))⟩, 
          ⟨(some 24), .una .not (.tmp 23), (some (21, false))⟩, 
          ⟨(some 25), .pick (.tmp 21) (.const (.bool true)) (.tmp 24), none⟩])
        (.cond (.tmp 25)
          (.seq (.region [
            ⟨(some 2), .mov (.const (.bool false)), none⟩])
          .ret)
          .skip))))
      (.region [
        ⟨(some 26), .bin .add .num (.tmp 12) (.const (.int .i64 1)), none⟩, 
        ⟨(some 12), .mov (.tmp 26), none⟩])))))))
  (.seq (.region [
    ⟨(some 2), .mov (.const (.bool true)), none⟩])
  .ret)))))
theorem ok39 : FnOk Try.prog 39 27 ir39 [.tmp 2] := fnOk_of mixed Try.func39 (by kernel_rfl) Try.ntmps39 (by kernel_rfl) (by kernel_rfl)

/-- arbac/arbacref18.Type -/
def ir40 : ACode :=
  (.seq (.region [
    ⟨(some 2), .mov (.const (.int .i64 0)), none⟩])
  (.seq (.seq (.region [
    ⟨(some 3), .mov (.tmp 0), none⟩, 
    ⟨(some 4), .bin .eql .num (.tmp 3) (.const (.int .i64 1)), none⟩, 
    ⟨(some 5), .mov (.tmp 4), none⟩, 
    ⟨(some 6), .mov (.tmp 0), (some (5, false))⟩, 
    ⟨(some 7), .bin .eql .num (.tmp 6) (.const (.int .i64 5)), (some (5, false))⟩, 
    ⟨(some 8), .pick (.tmp 5) (.const (.bool true)) (.tmp 7), none⟩, 
    ⟨(some 9), .mov (.tmp 8), none⟩, 
    ⟨(some 10), .mov (.tmp 0), (some (9, false))⟩, 
    ⟨(some 11), .bin .eql .num (.tmp 10) (.const (.int .i64 6)), (some (9, false))⟩, 
    ⟨(some 12), .pick (.tmp 9) (.const (.bool true)) (.tmp 11), none⟩, 
    ⟨(some 13), .mov (.tmp 12), none⟩, 
    ⟨(some 14), .mov (.tmp 0), (some (13, false))⟩, 
    ⟨(some 15), .bin .eql .num (.tmp 14) (.const (.int .i64 16)), (some (13, false))⟩, 
    ⟨(some 16), .pick (.tmp 13) (.const (.bool true)) (.tmp 15), none⟩])
  (.cond (.tmp 16)
    (.seq (.region [
      ⟨(some 2), .mov (.const (.int .i64 2)), none⟩])
    .ret)
    .skip))
  (.seq (.region [
    ⟨(some 2), .mov (.const (.int .i64 1)), none⟩])
  .ret)))
theorem ok40 : FnOk Try.prog 40 17 ir40 [.tmp 2] := fnOk_of mixed Try.func40 (by kernel_rfl) Try.ntmps40 (by kernel_rfl) (by kernel_rfl)

/-- arbac/arbacref20.number -/
def ir41 : ACode :=
  (.seq (.region [
    ⟨(some 3), .box (.tmp 0), none⟩, 
    ⟨(some 6), .mov (.const (.int .i64 0)), none⟩])
  (.seq (.seq (.region [
    ⟨(some 11), .faddr 0 (.tmp 3), none⟩, 
    ⟨(some 12), .load false 1 (.tmp 11), none⟩])
  (.block 0
    (.seq (.region [
      ⟨(some 14), .bin .eql .num (.tmp 12) (.const (.int .i64 1)), none⟩, 
      ⟨(some 13), .mov (.tmp 14), none⟩])
    (.cond (.tmp 13)
      (.seq (.region [
        ⟨(some 15), .faddr 1 (.tmp 3), none⟩, 
        ⟨(some 16), .load false 1 (.tmp 15), none⟩, 
        ⟨(some 6), .mov (.tmp 16), none⟩])
      .ret)
      (.seq (.region [
        ⟨(some 18), .bin .eql .num (.tmp 12) (.const (.int .i64 5)), none⟩, 
        ⟨(some 17), .mov (.tmp 18), none⟩])
      (.cond (.tmp 17)
        (.seq (.region [
          ⟨(some 7), .mov (.const (.int .i64 0)), none⟩])
        (.seq (.seq (.region [
          ⟨(some 19), .faddr 2 (.tmp 3), none⟩, 
          ⟨(some 20), .load false 1 (.tmp 19), none⟩, 
          ⟨(some 21), .len (.tmp 20), none⟩, 
          ⟨(some 22), .mov (.const (.int .i64 0)), none⟩])
        (.block 1
          (.loop
            (.seq (.region [
              ⟨(some 23), .bin .lss .num (.tmp 22) (.tmp 21), none⟩])
            (.seq (.cond (.tmp 23)
              .skip
              (.exit 1))
            (.seq (.block 2
              (.seq (.region [
                ⟨(some 24), .iaddr 1 (.tmp 20) (.tmp 22), none⟩, 
                ⟨(some 25), .load false 1 (.tmp 24), none⟩, 
                ⟨(some 9), .mov (.tmp 25), none⟩])
              (.seq (.region [
                ⟨(some 26), .mov (.tmp 1), none⟩, 
                ⟨(some 27), .mov (.tmp 9), none⟩, 
                ⟨(some 28), .conv .u64 (.tmp 27), none⟩, 
                ⟨(some 29), .bin .shr .num (.tmp 26) (.tmp 28), none⟩, 
                ⟨(some 30), .bin .rem .num (.tmp 29) (.const (.int .u64 2)), none⟩, 
                ⟨(some 31), .bin .eql .num (.tmp 30) (.const (.int .u64 1)), none⟩])
              (.cond (.tmp 31)
                (.region [
                  ⟨(some 32), .mov (.tmp 7), none⟩, 
                  ⟨(some 33), .bin .add .num (.tmp 32) (.const (.int .i64 1)), none⟩, 
                  ⟨(some 7), .mov (.tmp 33), none⟩])
                .skip))))
            (.region [
              ⟨(some 34), .bin .add .num (.tmp 22) (.const (.int .i64 1)), none⟩, 
              ⟨(some 22), .mov (.tmp 34), none⟩])))))))
        (.seq (.region [
          ⟨(some 35), .mov (.tmp 7), none⟩, 
          ⟨(some 6), .mov (.tmp 35), none⟩])
        .ret)))
        (.seq (.region [
          ⟨(some 37), .bin .eql .num (.tmp 12) (.const (.int .i64 6)), none⟩, 
          ⟨(some 36), .mov (.tmp 37), none⟩])
        (.cond (.tmp 36)
          (.seq (.region [
            ⟨(some 38), .faddr 2 (.tmp 3), none⟩, 
            ⟨(some 39), .load false 1 (.tmp 38), none⟩, 
            ⟨(some 40), .iaddr 1 (.tmp 39) (.const (.int .i64 0)), none⟩, 
            ⟨(some 41), .load false 1 (.tmp 40), none⟩, 
            ⟨(some 10), .mov (.tmp 41), none⟩])
          (.seq (.seq (.region [
            ⟨(some 42), .mov (.tmp 10), none⟩, 
            ⟨(some 43), .mov (.tmp 2), none⟩, 
            ⟨(some 44), .len (.tmp 43), none⟩, 
            ⟨(some 45), .bin .geq .num (.tmp 42) (.tmp 44), none⟩, 
            ⟨(some 46), .mov (.tmp 45), none⟩, 
            ⟨(some 47), .mov (.tmp 2), (some (46, false))⟩, 
            ⟨(some 48), .mov (.tmp 10), (some (46, false))⟩, 
            ⟨(some 49), .iaddr 1 (.tmp 47) (.tmp 48), (some (46, false))⟩, 
            ⟨(some 50), .load false 1 (.tmp 49), (some (46, false))⟩, 
            ⟨(some 51), .bin .lss .num (.tmp 50) (.const (.int .i64 0)), (some (46, false))⟩, 
            ⟨(some 52), .pick (.tmp 46) (.const (.bool true)) (.tmp 51), none⟩, 
            ⟨(some 53), .mov (.tmp 52), none⟩, 
            ⟨(some 54), .mov (.tmp 2), (some (53, false))⟩, 
            ⟨(some 55), .mov (.tmp 10), (some (53, false))⟩, 
            ⟨(some 56), .iaddr 1 (.tmp 54) (.tmp 55), (some (53, false))⟩, 
            ⟨(some 57), .load false 1 (.tmp 56), (some (53, false))⟩, 
            ⟨(some 58), .bin .gtr .num (.tmp 57) (.const (.int .i64 256)), (some (53, false))⟩, 
            ⟨(some 59), .pick (.tmp 53) (.const (.bool true)) (.tmp 58), none⟩])
          (.cond (.tmp 59)
            (.seq (.region [
              ⟨(some 6), .mov (.const (.int .i64 0)), none⟩])
            .ret)
            .skip))
          (.seq (.region [
            ⟨(some 60), .mov (.tmp 2), none⟩, 
            ⟨(some 61), .mov (.tmp 10), none⟩, 
            ⟨(some 62), .iaddr 1 (.tmp 60) (.tmp 61), none⟩, 
            ⟨(some 63), .load false 1 (.tmp 62), none⟩, 
            ⟨(some 6), .mov (.tmp 63), none⟩])
          .ret)))
          .skip))))))))
  (.seq (.draw [
    ⟨0, ⟨(some 64), .faddr 3 (.tmp 3), none⟩, 0, false, false⟩, 
    ⟨1, ⟨(some 65), .load false 1 (.tmp 64), none⟩, 1, false, false⟩, 
    ⟨2, ⟨(some 66), .iaddr 4 (.tmp 65) (.const (.int .i64 0)), none⟩, 3, false, false⟩, 
    ⟨3, ⟨(some 67), .load true 4 (.tmp 66), none⟩, 7, false, false⟩, 
    ⟨4, ⟨(some 68), .mov (.tmp 1), none⟩, 0, false, false⟩, 
    ⟨5, ⟨(some 69), .mov (.tmp 2), none⟩, 0, false, false⟩, 
    ⟨6, ⟨(some 70), .call (.func 41) [(.tmp 67), (.tmp 68), (.tmp 69)], none⟩, 63, false, false⟩, 
    ⟨7, ⟨(some 71), .faddr 3 (.tmp 3), none⟩, 0, false, false⟩, 
    ⟨8, ⟨(some 72), .load false 1 (.tmp 71), none⟩, 128, false, false⟩, 
    ⟨9, ⟨(some 73), .iaddr 4 (.tmp 72) (.const (.int .i64 1)), none⟩, 384, false, false⟩, 
    ⟨10, ⟨(some 74), .load true 4 (.tmp 73), none⟩, 896, false, false⟩, 
    ⟨11, ⟨(some 75), .mov (.tmp 1), none⟩, 0, false, false⟩, 
    ⟨12, ⟨(some 76), .mov (.tmp 2), none⟩, 0, false, false⟩, 
    ⟨13, ⟨(some 77), .call (.func 41) [(.tmp 74), (.tmp 75), (.tmp 76)], none⟩, 8191, true, false⟩, 
    ⟨14, ⟨(some 78), .bin .add .num (.tmp 70) (.tmp 77), none⟩, 16383, true, false⟩, 
    ⟨15, ⟨(some 6), .mov (.tmp 78), none⟩, 32767, true, false⟩])
  .ret)))
theorem ok41 : FnOk Try.prog 41 79 ir41 [.tmp 6] := fnOk_of mixed Try.func41 (by kernel_rfl) Try.ntmps41 (by kernel_rfl) (by kernel_rfl)

/-- arbac/arbacref18.operands -/
def ir42 : ACode :=
  (.seq (.region [
    ⟨(some 2), .mov (.const (.int .i64 0)), none⟩])
  (.seq (.block 0
    (.seq (.region [
      ⟨(some 4), .mov (.tmp 0), none⟩, 
      ⟨(some 5), .bin .geq .num (.tmp 4) (.const (.int .i64 8)), none⟩, 
      ⟨(some 3), .mov (.tmp 5), none⟩])
    (.cond (.tmp 3)
      (.seq (.region [
        ⟨(some 2), .mov (.const (.int .i64 2)), none⟩])
      .ret)
      (.seq (.region [
        ⟨(some 7), .mov (.tmp 0), none⟩, 
        ⟨(some 8), .bin .eql .num (.tmp 7) (.const (.int .i64 7)), none⟩, 
        ⟨(some 6), .mov (.tmp 8), none⟩])
      (.cond (.tmp 6)
        (.seq (.region [
          ⟨(some 2), .mov (.const (.int .i64 1)), none⟩])
        .ret)
        .skip)))))
  (.seq (.region [
    ⟨(some 2), .mov (.const (.int .i64 0)), none⟩])
  .ret)))
theorem ok42 : FnOk Try.prog 42 9 ir42 [.tmp 2] := fnOk_of mixed Try.func42 (by kernel_rfl) Try.ntmps42 (by kernel_rfl) (by kernel_rfl)

/-- (*arbac/arbacref18.source).number -/
def ir43 : ACode :=
  (.seq (.region [
    ⟨(some 8), .alloc [(.int .i64 0), (.int .i64 0), (.slice none 0 0), (.slice none 0 0)], none⟩])
  (.seq (.region [
    ⟨(some 15), .mov (.tmp 0), none⟩, 
    ⟨(some 16), .call (.func 28) [(.tmp 15)], none⟩, 
    ⟨(some 9), .mov (.tmp 16), none⟩])
  (.seq (.seq (.region [
    ⟨(some 17), .mov (.tmp 1), none⟩, 
    ⟨(some 18), .bin .gtr .num (.tmp 17) (.const (.int .i64 1)), none⟩, 
    ⟨(some 19), .mov (.tmp 18), none⟩, 
    ⟨(some 20), .mov (.tmp 9), (some (19, true))⟩, 
    ⟨(some 21), .bin .rem .num (.tmp 20) (.const (.int .i64 3)), (some (19, true))⟩, 
    ⟨(some 22), .bin .eql .num (.tmp 21) (.const (.int .i64 2)), (some (19, true))⟩, 
    ⟨(some 23), .pick (.tmp 19) (.tmp 22) (.const (.bool false)), none⟩])
  (.cond (.tmp 23)
    (.seq (.region [
      ⟨(some 24), .mov (.tmp 0), none⟩, 
      ⟨(some 25), .mov (.tmp 1), none⟩, 
      ⟨(some 26), .bin .sub .num (.tmp 25) (.const (.int .i64 1)), none⟩, 
      ⟨(some 27), .mov (.tmp 2), none⟩, 
      ⟨(some 28), .mov (.tmp 3), none⟩, 
      ⟨(some 29), .call (.func 43) [(.tmp 24), (.tmp 26), (.tmp 27), (.tmp 28)], none⟩, 
      ⟨(some 10), .alloc [(.int .i64 0), (.int .i64 0), (.slice none 0 0), (.slice none 0 0)], none⟩, 
      ⟨none, .store 4 (.tmp 10) (.tmp 29), none⟩])
    (.seq (.region [
      ⟨(some 30), .mov (.tmp 0), none⟩, 
      ⟨(some 31), .mov (.tmp 1), none⟩, 
      ⟨(some 32), .bin .sub .num (.tmp 31) (.const (.int .i64 1)), none⟩, 
      ⟨(some 33), .mov (.tmp 2), none⟩, 
      ⟨(some 34), .mov (.tmp 3), none⟩, 
      ⟨(some 35), .call (.func 43) [(.tmp 30), (.tmp 32), (.tmp 33), (.tmp 34)], none⟩, 
      ⟨(some 11), .alloc [(.int .i64 0), (.int .i64 0), (.slice none 0 0), (.slice none 0 0)], none⟩, 
      ⟨none, .store 4 (.tmp 11) (.tmp 35), none⟩])
    (.seq (.region [
      ⟨(some 36), .load true 4 (.tmp 10), none⟩, 
      ⟨(some 37), .load true 4 (.tmp 11), none⟩, 
      ⟨(some 38), .bslice [(.int .i64 0), (.int .i64 0), (.slice none 0 0), (.slice none 0 0)] 2 [(0, (.tmp 36)), (1, (.tmp 37))], none⟩, 
      ⟨(some 39), .build [(.int .i64 0), (.int .i64 0), (.slice none 0 0), (.slice none 0 0)] [(0, 1, (.const (.int .i64 16))), (3, 1, (.tmp 38))], none⟩, 
      ⟨none, .store 4 (.tmp 8) (.tmp 39), none⟩])
    .ret)))
    .skip))
  (.seq (.seq (.region [
    ⟨(some 40), .mov (.tmp 9), none⟩, 
    ⟨(some 41), .bin .rem .num (.tmp 40) (.const (.int .i64 3)), none⟩, 
    ⟨(some 42), .bin .eql .num (.tmp 41) (.const (.int .i64 0)), none⟩])
  (.cond (.tmp 42)
    (.seq (.region [
      ⟨(some 43), .mov (.tmp 9), none⟩, 
      ⟨(some 44), .bin .quo .num (.tmp 43) (.const (.int .i64 3)), none⟩, 
      ⟨(some 45), .bin .rem .num (.tmp 44) (.const (.int .i64 4)), none⟩, 
      ⟨(some 46), .build [(.int .i64 0), (.int .i64 0), (.slice none 0 0), (.slice none 0 0)] [(0, 1, (.const (.int .i64 1))), (1, 1, (.tmp 45))], none⟩, 
      ⟨none, .store 4 (.tmp 8) (.tmp 46), none⟩])
    .ret)
    .skip))
  (.seq (.seq (.region [
    ⟨(some 47), .mov (.tmp 2), none⟩, 
    ⟨(some 48), .bin .eql .num (.tmp 47) (.const (.int .i64 3)), none⟩])
  (.cond (.tmp 48)
    (.seq (.region [
      ⟨(some 49), .mov (.tmp 9), none⟩, 
      ⟨(some 50), .bin .quo .num (.tmp 49) (.const (.int .i64 3)), none⟩, 
      ⟨(some 51), .mov (.tmp 3), none⟩, 
      ⟨(some 52), .bin .rem .num (.tmp 50) (.tmp 51), none⟩, 
      ⟨(some 53), .bin .add .num (.const (.int .i64 1)) (.tmp 52), none⟩, 
      ⟨(some 54), .bslice [(.int .i64 0)] 1 [(0, (.tmp 53))], none⟩, 
      ⟨(some 55), .build [(.int .i64 0), (.int .i64 0), (.slice none 0 0), (.slice none 0 0)] [(0, 1, (.const (.int .i64 6))), (2, 1, (.tmp 54))], none⟩, 
      ⟨none, .store 4 (.tmp 8) (.tmp 55), none⟩])
    .ret)
    .skip))
  (.seq (.region [
    ⟨(some 56), .build [(.int .i64 0), (.int .i64 0), (.slice none 0 0), (.slice none 0 0)] [(0, 1, (.const (.int .i64 5)))], none⟩, 
    ⟨(some 12), .alloc [(.int .i64 0), (.int .i64 0), (.slice none 0 0), (.slice none 0 0)], none⟩, 
    ⟨none, .store 4 (.tmp 12) (.tmp 56), none⟩])
  (.seq (.region [
    ⟨(some 57), .mov (.tmp 0), none⟩, 
    ⟨(some 58), .call (.func 28) [(.tmp 57)], none⟩, 
    ⟨(some 13), .mov (.tmp 58), none⟩])
  (.seq (.seq (.region [
    ⟨(some 14), .mov (.const (.int .i64 1)), none⟩])
  (.block 0
    (.loop
      (.seq (.seq (.region [
        ⟨(some 59), .mov (.tmp 14), none⟩, 
        ⟨(some 60), .mov (.tmp 3), none⟩, 
        ⟨(some 61), .bin .leq .num (.tmp 59) (.tmp 60), none⟩])
      (.cond (.tmp 61)
        .skip
        (.exit 0)))
      (.seq (.block 1
        (.seq (.region [
          ⟨(some 64), .mov (.tmp 13), none⟩, 
          ⟨(some 65), .mov (.tmp 14), none⟩, 
          ⟨(some 66), .bin .sub .num (.tmp 65) (.const (.int .i64 1)), none⟩, 
          ⟨(some 67), .bin .shr .num (.tmp 64) (.tmp 66), none⟩, 
          ⟨(some 68), .bin .rem .num (.tmp 67) (.const (.int .i64 2)), none⟩, 
          ⟨(some 69), .bin .eql .num (.tmp 68) (.const (.int .i64 1)), none⟩])
        (.cond (.tmp 69)
          (.region [
            ⟨(some 70), .faddr 2 (.tmp 12), none⟩, 
            ⟨(some 71), .load false 1 (.tmp 70), none⟩, 
            ⟨(some 72), .mov (.tmp 14), none⟩, 
            ⟨(some 73), .bslice [(.int .i64 0)] 1 [(0, (.tmp 72))], none⟩, 
            ⟨(some 74), .append [(.int .i64 0)] 8 (.tmp 71) (.tmp 73), none⟩, 
            ⟨(some 75), .faddr 2 (.tmp 12), none⟩, 
            ⟨none, .store 1 (.tmp 75) (.tmp 74), none⟩])
          .skip)))
      (.region [
        ⟨(some 62), .mov (.tmp 14), none⟩, 
        ⟨(some 63), .bin .add .num (.tmp 62) (.const (.int .i64 1)), none⟩, 
        ⟨(some 14), .mov (.tmp 63), none⟩]))))))
  (.seq (.seq (.region [
    ⟨(some 76), .faddr 2 (.tmp 12), none⟩, 
    ⟨(some 77), .load false 1 (.tmp 76), none⟩, 
    ⟨(some 78), .len (.tmp 77), none⟩, 
    ⟨(some 79), .bin .eql .num (.tmp 78) (.const (.int .i64 0)), none⟩])
  (.cond (.tmp 79)
    (.region [
      ⟨(some 80), .mov (.tmp 9), none⟩, 
      ⟨(some 81), .bin .quo .num (.tmp 80) (.const (.int .i64 3)), none⟩, 
      ⟨(some 82), .mov (.tmp 3), none⟩, 
      ⟨(some 83), .bin .rem .num (.tmp 81) (.tmp 82), none⟩, 
      ⟨(some 84), .bin .add .num (.const (.int .i64 1)) (.tmp 83), none⟩, 
      ⟨(some 85), .bslice [(.int .i64 0)] 1 [(0, (.tmp 84))], none⟩, 
      ⟨(some 86), .faddr 2 (.tmp 12), none⟩, 
      ⟨none, .store 1 (.tmp 86) (.tmp 85), none⟩])
    .skip))
  (.seq (.region [
    ⟨(some 87), .load true 4 (.tmp 12), none⟩, 
    ⟨none, .store 4 (.tmp 8) (.tmp 87), none⟩])
  .ret))))))))))
theorem ok43 : FnOk Try.prog 43 88 ir43 [.cell 8 true 4] := fnOk_of mixed Try.func43 (by kernel_rfl) Try.ntmps43 (by kernel_rfl) (by kernel_rfl)

/-- (arbac/formula.Formula).measure -/
def ir44 : ACode :=
  (.seq (.region [
    ⟨(some 1), .box (.tmp 0), none⟩, 
    ⟨(some 2), .mov (.const (.int .i64 0)), none⟩, 
    ⟨(some 3), .mov (.const (.int .i64 0)), none⟩])
  (.seq (.seq (.region [
    ⟨(some 8), .faddr 3 (.tmp 1), none⟩, 
    ⟨(some 9), .load false 1 (.tmp 8), none⟩, 
    ⟨(some 10), .len (.tmp 9), none⟩, 
    ⟨(some 11), .mov (.const (.int .i64 0)), none⟩])
  (.block 0
    (.loop
      (.seq (.region [
        ⟨(some 12), .bin .lss .num (.tmp 11) (.tmp 10), none⟩])
      (.seq (.cond (.tmp 12)
        .skip
        (.exit 0))
      (.seq (.block 1
        (.seq (.region [
          ⟨(some 13), .iaddr 4 (.tmp 9) (.tmp 11), none⟩, 
          ⟨(some 14), .load true 4 (.tmp 13), none⟩, 
          ⟨(some 5), .alloc [(.int .u8 0), (.int .i64 0), (.slice none 0 0), (.slice none 0 0)], none⟩, 
          ⟨none, .store 4 (.tmp 5) (.tmp 14), none⟩])
        (.seq (.region [
          ⟨(some 16), .load true 4 (.tmp 5), none⟩, 
          ⟨(some 17), .call (.func 44) [(.tmp 16)], none⟩, 
          ⟨(some 15), .mov (.tmp 17), none⟩, 
          ⟨(some 18), .extract (.tmp 15) 0, none⟩, 
          ⟨(some 19), .extract (.tmp 15) 1, none⟩, 
          ⟨(some 6), .mov (.tmp 18), none⟩, 
          ⟨(some 7), .mov (.tmp 19), none⟩])
        (.region [
          ⟨(some 20), .mov (.tmp 2), none⟩, 
          ⟨(some 21), .mov (.tmp 6), none⟩, 
          ⟨(some 22), .mx (.tmp 20) (.tmp 21), none⟩, 
          ⟨(some 23), .mov (.tmp 3), none⟩, 
          ⟨(some 24), .mov (.tmp 7), none⟩, 
          ⟨(some 25), .bin .add .num (.tmp 23) (.tmp 24), none⟩, 
          ⟨(some 2), .mov (.tmp 22), none⟩, 
          ⟨(some 3), .mov (.tmp 25), none⟩]))))
      (.region [
        ⟨(some 26), .bin .add .num (.tmp 11) (.const (.int .i64 1)), none⟩, 
        ⟨(some 11), .mov (.tmp 26), none⟩])))))))
  (.seq (.region [
    ⟨(some 27), .mov (.tmp 2), none⟩, 
    ⟨(some 28), .bin .add .num (.tmp 27) (.const (.int .i64 1)), none⟩, 
    ⟨(some 29), .mov (.tmp 3), none⟩, 
    ⟨(some 30), .bin .add .num (.tmp 29) (.const (.int .i64 1)), none⟩, 
    ⟨(some 2), .mov (.tmp 28), none⟩, 
    ⟨(some 3), .mov (.tmp 30), none⟩])
  .ret)))
theorem ok44 : FnOk Try.prog 44 31 ir44 [.tmp 2, .tmp 3] := fnOk_of mixed Try.func44 (by kernel_rfl) Try.ntmps44 (by kernel_rfl) (by kernel_rfl)

/-- (arbac/formula.Formula).inside -/
def ir45 : ACode :=
  (.seq (.region [
    ⟨(some 2), .box (.tmp 0), none⟩, 
    ⟨(some 4), .mov (.const (.int .i64 0)), none⟩])
  (.seq (.seq (.region [
    ⟨(some 10), .load true 4 (.tmp 2), none⟩, 
    ⟨(some 11), .call (.func 48) [(.tmp 10)], none⟩, 
    ⟨(some 5), .mov (.tmp 11), none⟩])
  (.seq (.region [
    ⟨(some 12), .mov (.tmp 5), none⟩, 
    ⟨(some 13), .bin .neq .num (.tmp 12) (.const (.int .i64 0)), none⟩])
  (.cond (.tmp 13)
    (.seq (.region [
      ⟨(some 14), .mov (.tmp 5), none⟩, 
      ⟨(some 4), .mov (.tmp 14), none⟩])
    .ret)
    .skip)))
  (.seq (.region [
    ⟨(some 15), .faddr 0 (.tmp 2), none⟩, 
    ⟨(some 16), .load false 1 (.tmp 15), none⟩, 
    ⟨(some 17), .bin .eql .num (.tmp 16) (.const (.int .u8 4)), none⟩, 
    ⟨(some 18), .mov (.tmp 17), none⟩, 
    ⟨(some 19), .faddr 0 (.tmp 2), (some (18, false))⟩, 
    ⟨(some 20), .load false 1 (.tmp 19), (some (18, false))⟩, 
    ⟨(some 21), .bin .eql .num (.tmp 20) (.const (.int .u8 5)), (some (18, false))⟩, 
    ⟨(some 22), .pick (.tmp 18) (.const (.bool true)) (.tmp 21), none⟩, 
    ⟨(some 6), .mov (.tmp 22), none⟩])
  (.seq (.seq (.region [
    ⟨(some 23), .mov (.tmp 1), none⟩, 
    ⟨(some 24), .bin .eql .num (.tmp 23) (.const (.int .u8 3)), none⟩, 
    ⟨(some 25), .mov (.tmp 24), none⟩, 
    ⟨(some 26), .mov (.tmp 6), (some (25, true))⟩, 
    ⟨(some 27), .pick (.tmp 25) (.tmp 26) (.const (.bool false)), none⟩, 
    ⟨(some 28), .mov (.tmp 27), none⟩, 
    ⟨(some 29), .mov (.tmp 1), (some (28, false))⟩, 
    ⟨(some 30), .bin .neq .num (.tmp 29) (.const (.int .u8 0)), (some (28, false))⟩, 
    ⟨(some 31), .mov (.tmp 30), (some (28, false))⟩, 
    ⟨(some 32), .mov (.tmp 1), (some (31, true))⟩, 
    ⟨(some 33), .bin .neq .num (.tmp 32) (.const (.int .u8 3)), (some (31, true))⟩, 
    ⟨(some 34), .pick (.tmp 31) (.tmp 33) (.const (.bool false)), (some (28, false))⟩, 
    ⟨(some 35), .mov (.tmp 34), (some (28, false))⟩, 
    ⟨(some 36), .faddr 0 (.tmp 2), (some (35, true))⟩, 
    ⟨(some 37), .load false 1 (.tmp 36), (some (35, true))⟩, 
    ⟨(some 38), .bin .eql .num (.tmp 37) (.const (.int .u8 6)), (some (35, true))⟩, 
    ⟨(some 39), .pick (.tmp 35) (.tmp 38) (.const (.bool false)), (some (28, false))⟩, 
    ⟨(some 40), .pick (.tmp 28) (.const (.bool true)) (.tmp 39), none⟩])
  (.cond (.tmp 40)
    (.seq (.region [
      ⟨(some 4), .mov (.const (.int .i64 10)), none⟩])
    .ret)
    .skip))
  (.seq (.seq (.region [
    ⟨(some 41), .faddr 3 (.tmp 2), none⟩, 
    ⟨(some 42), .load false 1 (.tmp 41), none⟩, 
    ⟨(some 43), .len (.tmp 42), none⟩, 
    ⟨(some 44), .mov (.const (.int .i64 0)), none⟩])
  (.block 0
    (.loop
      (.seq (.region [
        ⟨(some 45), .bin .lss .num (.tmp 44) (.tmp 43), none⟩])
      (.seq (.cond (.tmp 45)
        .skip
        (.exit 0))
      (.seq (.block 1
        (.seq (.region [
          ⟨(some 46), .iaddr 4 (.tmp 42) (.tmp 44), none⟩, 
          ⟨(some 47), .load true 4 (.tmp 46), none⟩, 
          ⟨(some 8), .alloc [(.int .u8 0), (.int .i64 0), (.slice none 0 0), (.slice none 0 0)], none⟩, 
          ⟨none, .store 4 (.tmp 8) (.tmp 47), none⟩])
        (.seq (.region [
          ⟨(some 48), .load true 4 (.tmp 8), none⟩, 
          ⟨(some 49), .mov (.tmp 1), none⟩, 
          ⟨(some 50), .call (.func 45) [(.tmp 48), (.tmp 49)], none⟩, 
          ⟨(some 9), .mov (.tmp 50), none⟩])
        (.seq (.region [
          ⟨(some 51), .mov (.tmp 9), none⟩, 
          ⟨(some 52), .bin .neq .num (.tmp 51) (.const (.int .i64 0)), none⟩])
        (.cond (.tmp 52)
          (.seq (.region [
            ⟨(some 53), .mov (.tmp 9), none⟩, 
            ⟨(some 4), .mov (.tmp 53), none⟩])
          .ret)
          .skip)))))
      (.region [
        ⟨(some 54), .bin .add .num (.tmp 44) (.const (.int .i64 1)), none⟩, 
        ⟨(some 44), .mov (.tmp 54), none⟩])))))))
  (.seq (.region [
    ⟨(some 4), .mov (.const (.int .i64 0)), none⟩])
  .ret))))))
theorem ok45 : FnOk Try.prog 45 55 ir45 [.tmp 4] := fnOk_of mixed Try.func45 (by kernel_rfl) Try.ntmps45 (by kernel_rfl) (by kernel_rfl)

/-- (arbac/bits.Set).word -/
def ir46 : ACode :=
  (.seq (.region [
    ⟨(some 2), .box (.tmp 0), none⟩, 
    ⟨(some 4), .mov (.const (.int .u64 0)), none⟩])
  (.seq (.seq (.region [
    ⟨(some 5), .mov (.tmp 1), none⟩, 
    ⟨(some 6), .faddr 0 (.tmp 2), none⟩, 
    ⟨(some 7), .load false 1 (.tmp 6), none⟩, 
    ⟨(some 8), .len (.tmp 7), none⟩, 
    ⟨(some 9), .bin .lss .num (.tmp 5) (.tmp 8), none⟩])
  (.cond (.tmp 9)
    (.seq (.region [
      ⟨(some 10), .faddr 0 (.tmp 2), none⟩, 
      ⟨(some 11), .load false 1 (.tmp 10), none⟩, 
      ⟨(some 12), .mov (.tmp 1), none⟩, 
      ⟨(some 13), .iaddr 1 (.tmp 11) (.tmp 12), none⟩, 
      ⟨(some 14), .load false 1 (.tmp 13), none⟩, 
      ⟨(some 4), .mov (.tmp 14), none⟩])
    .ret)
    .skip))
  (.seq (.region [
    ⟨(some 4), .mov (.const (.int .u64 0)), none⟩])
  .ret)))
theorem ok46 : FnOk Try.prog 46 15 ir46 [.tmp 4] := fnOk_of mixed Try.func46 (by kernel_rfl) Try.ntmps46 (by kernel_rfl) (by kernel_rfl)

/-- arbac/arbacref18.node -/
def ir47 : ACode :=
  (.seq (.region [
    ⟨(some 2), .box (.tmp 0), none⟩, 
    ⟨(some 4), .mov (.const (.int .i64 0)), none⟩])
  (.seq (.seq (.draw [
    ⟨0, ⟨(some 13), .faddr 0 (.tmp 2), none⟩, 0, true, false⟩, 
    ⟨1, ⟨(some 14), .load false 1 (.tmp 13), none⟩, 1, true, false⟩, 
    ⟨2, ⟨(some 15), .bin .lss .num (.tmp 14) (.const (.int .i64 1)), none⟩, 3, true, false⟩, 
    ⟨3, ⟨(some 16), .mov (.tmp 15), none⟩, 7, true, false⟩, 
    ⟨4, ⟨(some 17), .faddr 0 (.tmp 2), (some (16, false))⟩, 15, true, false⟩, 
    ⟨5, ⟨(some 18), .load false 1 (.tmp 17), (some (16, false))⟩, 31, true, false⟩, 
    ⟨6, ⟨(some 19), .bin .gtr .num (.tmp 18) (.const (.int .i64 16)), (some (16, false))⟩, 63, true, false⟩, 
    ⟨7, ⟨(some 20), .pick (.tmp 16) (.const (.bool true)) (.tmp 19), none⟩, 127, true, false⟩, 
    ⟨8, ⟨(some 21), .mov (.tmp 20), none⟩, 255, true, false⟩, 
    ⟨9, ⟨(some 22), .faddr 3 (.tmp 2), (some (21, false))⟩, 511, false, false⟩, 
    ⟨10, ⟨(some 23), .load false 1 (.tmp 22), (some (21, false))⟩, 1023, false, false⟩, 
    ⟨11, ⟨(some 24), .len (.tmp 23), (some (21, false))⟩, 2047, false, false⟩, 
    ⟨12, ⟨(some 25), .faddr 0 (.tmp 2), (some (21, false))⟩, 511, false, false⟩, 
    ⟨13, ⟨(some 26), .load false 1 (.tmp 25), (some (21, false))⟩, 4607, false, false⟩, 
    ⟨14, ⟨(some 27), .call (.func 42) [(.tmp 26)], (some (21, false))⟩, 12799, false, false⟩, 
    ⟨15, ⟨(some 28), .bin .neq .num (.tmp 24) (.tmp 27), (some (21, false))⟩, 32767, true, false⟩, 
    ⟨16, ⟨(some 29), .pick (.tmp 21) (.const (.bool true)) (.tmp 28), none⟩, 65535, true, false⟩])
  (.cond (.tmp 29)
    (.seq (.region [
      ⟨(some 4), .mov (.const (.int .i64 1)), none⟩])
    .ret)
    .skip))
  (.seq (.region [
    ⟨(some 5), .mov (.const (.int .i64 0)), none⟩, 
    ⟨(some 6), .mov (.const (.int .i64 0)), none⟩])
  (.seq (.seq (.region [
    ⟨(some 30), .faddr 0 (.tmp 2), none⟩, 
    ⟨(some 31), .load false 1 (.tmp 30), none⟩, 
    ⟨(some 32), .bin .eql .num (.tmp 31) (.const (.int .i64 4)), none⟩, 
    ⟨(some 33), .mov (.tmp 32), none⟩, 
    ⟨(some 34), .faddr 0 (.tmp 2), (some (33, false))⟩, 
    ⟨(some 35), .load false 1 (.tmp 34), (some (33, false))⟩, 
    ⟨(some 36), .bin .eql .num (.tmp 35) (.const (.int .i64 6)), (some (33, false))⟩, 
    ⟨(some 37), .pick (.tmp 33) (.const (.bool true)) (.tmp 36), none⟩])
  (.cond (.tmp 37)
    (.region [
      ⟨(some 5), .mov (.const (.int .i64 1)), none⟩, 
      ⟨(some 6), .mov (.const (.int .i64 1)), none⟩])
    .skip))
  (.seq (.seq (.region [
    ⟨(some 38), .faddr 0 (.tmp 2), none⟩, 
    ⟨(some 39), .load false 1 (.tmp 38), none⟩, 
    ⟨(some 40), .bin .eql .num (.tmp 39) (.const (.int .i64 5)), none⟩])
  (.cond (.tmp 40)
    (.region [
      ⟨(some 5), .mov (.const (.int .i64 1)), none⟩, 
      ⟨(some 6), .mov (.const (.int .i64 8)), none⟩])
    .skip))
  (.seq (.seq (.region [
    ⟨(some 41), .faddr 0 (.tmp 2), none⟩, 
    ⟨(some 42), .load false 1 (.tmp 41), none⟩, 
    ⟨(some 43), .bin .neq .num (.tmp 42) (.const (.int .i64 1)), none⟩, 
    ⟨(some 44), .mov (.tmp 43), none⟩, 
    ⟨(some 45), .faddr 1 (.tmp 2), (some (44, true))⟩, 
    ⟨(some 46), .load false 1 (.tmp 45), (some (44, true))⟩, 
    ⟨(some 47), .bin .neq .num (.tmp 46) (.const (.int .i64 0)), (some (44, true))⟩, 
    ⟨(some 48), .pick (.tmp 44) (.tmp 47) (.const (.bool false)), none⟩, 
    ⟨(some 49), .mov (.tmp 48), none⟩, 
    ⟨(some 50), .faddr 2 (.tmp 2), (some (49, false))⟩, 
    ⟨(some 51), .load false 1 (.tmp 50), (some (49, false))⟩, 
    ⟨(some 52), .len (.tmp 51), (some (49, false))⟩, 
    ⟨(some 53), .mov (.tmp 5), (some (49, false))⟩, 
    ⟨(some 54), .bin .lss .num (.tmp 52) (.tmp 53), (some (49, false))⟩, 
    ⟨(some 55), .pick (.tmp 49) (.const (.bool true)) (.tmp 54), none⟩, 
    ⟨(some 56), .mov (.tmp 55), none⟩, 
    ⟨(some 57), .faddr 2 (.tmp 2), (some (56, false))⟩, 
    ⟨(some 58), .load false 1 (.tmp 57), (some (56, false))⟩, 
    ⟨(some 59), .len (.tmp 58), (some (56, false))⟩, 
    ⟨(some 60), .mov (.tmp 6), (some (56, false))⟩, 
    ⟨(some 61), .bin .gtr .num (.tmp 59) (.tmp 60), (some (56, false))⟩, 
    ⟨(some 62), .pick (.tmp 56) (.const (.bool true)) (.tmp 61), none⟩])
  (.cond (.tmp 62)
    (.seq (.region [
      ⟨(some 4), .mov (.const (.int .i64 6)), none⟩])
    .ret)
    .skip))
  (.seq (.seq (.region [
    ⟨(some 63), .faddr 1 (.tmp 2), none⟩, 
    ⟨(some 64), .load false 1 (.tmp 63), none⟩, 
    ⟨(some 65), .bin .lss .num (.tmp 64) (.const (.int .i64 0)), none⟩, 
    ⟨(some 66), .mov (.tmp 65), none⟩, 
    ⟨(some 67), .faddr 1 (.tmp 2), (some (66, false))⟩, 
    ⟨(some 68), .load false 1 (.tmp 67), (some (66, false))⟩, 
    ⟨(some 69), .bin .gtr .num (.tmp 68) (.const (.int .i64 999999)), (some (66, false))⟩, 
    ⟨(some 70), .pick (.tmp 66) (.const (.bool true)) (.tmp 69), none⟩])
  (.cond (.tmp 70)
    (.seq (.region [
      ⟨(some 4), .mov (.const (.int .i64 2)), none⟩])
    .ret)
    .skip))
  (.seq (.seq (.region [
    ⟨(some 71), .faddr 2 (.tmp 2), none⟩, 
    ⟨(some 72), .load false 1 (.tmp 71), none⟩, 
    ⟨(some 73), .len (.tmp 72), none⟩, 
    ⟨(some 74), .mov (.const (.int .i64 0)), none⟩])
  (.block 0
    (.loop
      (.seq (.region [
        ⟨(some 75), .bin .lss .num (.tmp 74) (.tmp 73), none⟩])
      (.seq (.cond (.tmp 75)
        .skip
        (.exit 0))
      (.seq (.block 1
        (.seq (.region [
          ⟨(some 76), .iaddr 1 (.tmp 72) (.tmp 74), none⟩, 
          ⟨(some 77), .load false 1 (.tmp 76), none⟩, 
          ⟨(some 8), .mov (.tmp 77), none⟩])
        (.seq (.region [
          ⟨(some 78), .mov (.tmp 8), none⟩, 
          ⟨(some 79), .bin .lss .num (.tmp 78) (.const (.int .i64 1)), none⟩, 
          ⟨(some 80), .mov (.tmp 79), none⟩, 
          ⟨(some 81), .mov (.tmp 8), (some (80, false))⟩, 
          ⟨(some 82), .bin .gtr .num (.tmp 81) (.const (.int .i64 63)), (some (80, false))⟩, 
          ⟨(some 83), .pick (.tmp 80) (.const (.bool true)) (.tmp 82), none⟩])
        (.cond (.tmp 83)
          (.seq (.region [
            ⟨(some 4), .mov (.const (.int .i64 2)), none⟩])
          .ret)
          .skip))))
      (.region [
        ⟨(some 84), .bin .add .num (.tmp 74) (.const (.int .i64 1)), none⟩, 
        ⟨(some 74), .mov (.tmp 84), none⟩])))))))
  (.seq (.seq (.region [
    ⟨(some 85), .faddr 2 (.tmp 2), none⟩, 
    ⟨(some 86), .load false 1 (.tmp 85), none⟩, 
    ⟨(some 87), .len (.tmp 86), none⟩, 
    ⟨(some 88), .mov (.const (.int .i64 0)), none⟩])
  (.block 2
    (.loop
      (.seq (.region [
        ⟨(some 89), .bin .lss .num (.tmp 88) (.tmp 87), none⟩])
      (.seq (.cond (.tmp 89)
        .skip
        (.exit 2))
      (.seq (.block 3
        (.seq (.region [
          ⟨(some 90), .mov (.tmp 88), none⟩, 
          ⟨(some 91), .iaddr 1 (.tmp 86) (.tmp 88), none⟩, 
          ⟨(some 92), .load false 1 (.tmp 91), none⟩, 
          ⟨(some 9), .mov (.tmp 90), none⟩, 
          ⟨(some 10), .mov (.tmp 92), none⟩])
        (.seq (.region [
          ⟨(some 93), .faddr 2 (.tmp 2), none⟩, 
          ⟨(some 94), .load false 1 (.tmp 93), none⟩, 
          ⟨(some 95), .mov (.tmp 9), none⟩, 
          ⟨(some 96), .slc 1 (.tmp 94) none (some (.tmp 95)) none, none⟩, 
          ⟨(some 97), .len (.tmp 96), none⟩, 
          ⟨(some 98), .mov (.const (.int .i64 0)), none⟩])
        (.block 4
          (.loop
            (.seq (.region [
              ⟨(some 99), .bin .lss .num (.tmp 98) (.tmp 97), none⟩])
            (.seq (.cond (.tmp 99)
              .skip
              (.exit 4))
            (.seq (.block 5
              (.seq (.region [
                ⟨(some 100), .iaddr 1 (.tmp 96) (.tmp 98), none⟩, 
                ⟨(some 101), .load false 1 (.tmp 100), none⟩, 
                ⟨(some 12), .mov (.tmp 101), none⟩])
              (.seq (.region [
                ⟨(some 102), .mov (.tmp 12), none⟩, 
                ⟨(some 103), .mov (.tmp 10), none⟩, 
                ⟨(some 104), .bin .eql .num (.tmp 102) (.tmp 103), none⟩])
              (.cond (.tmp 104)
                (.seq (.region [
                  ⟨(some 4), .mov (.const (.int .i64 5)), none⟩])
                .ret)
                .skip))))
            (.region [
              ⟨(some 105), .bin .add .num (.tmp 98) (.const (.int .i64 1)), none⟩, 
              ⟨(some 98), .mov (.tmp 105), none⟩])))))))))
      (.region [
        ⟨(some 106), .bin .add .num (.tmp 88) (.const (.int .i64 1)), none⟩, 
        ⟨(some 88), .mov (.tmp 106), none⟩])))))))
  (.seq (.seq (.region [
    ⟨(some 107), .mov (.tmp 1), none⟩, 
    ⟨(some 108), .bin .eql .num (.tmp 107) (.const (.int .i64 3)), none⟩, 
    ⟨(some 109), .mov (.tmp 108), none⟩, 
    ⟨(some 110), .faddr 0 (.tmp 2), (some (109, true))⟩, 
    ⟨(some 111), .load false 1 (.tmp 110), (some (109, true))⟩, 
    ⟨(some 112), .bin .eql .num (.tmp 111) (.const (.int .i64 4)), (some (109, true))⟩, 
    ⟨(some 113), .mov (.tmp 112), (some (109, true))⟩, 
    ⟨(some 114), .faddr 0 (.tmp 2), (some (113, false))⟩, 
    ⟨(some 115), .load false 1 (.tmp 114), (some (113, false))⟩, 
    ⟨(some 116), .bin .eql .num (.tmp 115) (.const (.int .i64 5)), (some (113, false))⟩, 
    ⟨(some 117), .pick (.tmp 113) (.const (.bool true)) (.tmp 116), (some (109, true))⟩, 
    ⟨(some 118), .pick (.tmp 109) (.tmp 117) (.const (.bool false)), none⟩, 
    ⟨(some 119), .mov (.tmp 118), none⟩, 
    ⟨(some 120), .mov (.tmp 1), (some (119, false))⟩, 
    ⟨(some 121), .bin .neq .num (.tmp 120) (.const (.int .i64 0)), (some (119, false))⟩, 
    ⟨(some 122), .mov (.tmp 121), (some (119, false))⟩, 
    ⟨(some 123), .mov (.tmp 1), (some (122, true))⟩, 
    ⟨(some 124), .bin .neq .num (.tmp 123) (.const (.int .i64 3)), (some (122, true))⟩, 
    ⟨(some 125), .pick (.tmp 122) (.tmp 124) (.const (.bool false)), (some (119, false))⟩, 
    ⟨(some 126), .mov (.tmp 125), (some (119, false))⟩, 
    ⟨(some 127), .faddr 0 (.tmp 2), (some (126, true))⟩, 
    ⟨(some 128), .load false 1 (.tmp 127), (some (126, true))⟩, 
    ⟨(some 129), .bin .eql .num (.tmp 128) (.const (.int .i64 6)), (some (126, true))⟩, 
    ⟨(some 130), .pick (.tmp 126) (.tmp 129) (.const (.bool false)), (some (119, false))⟩, 
    ⟨(some 131), .pick (.tmp 119) (.const (.bool true)) (.tmp 130), none⟩])
  (.cond (.tmp 131)
    (.seq (.region [
      ⟨(some 4), .mov (.const (.int .i64 10)), none⟩])
    .ret)
    .skip))
  (.seq (.region [
    ⟨(some 4), .mov (.const (.int .i64 0)), none⟩])
  .ret)))))))))))
theorem ok47 : FnOk Try.prog 47 132 ir47 [.tmp 4] := fnOk_of mixed Try.func47 (by kernel_rfl) Try.ntmps47 (by kernel_rfl) (by kernel_rfl)

/-- (arbac/formula.Formula).node -/
def ir48 : ACode :=
  (.seq (.region [
    ⟨(some 1), .box (.tmp 0), none⟩, 
    ⟨(some 2), .mov (.const (.int .i64 0)), none⟩])
  (.seq (.region [
    ⟨(some 9), .faddr 0 (.tmp 1), none⟩, 
    ⟨(some 10), .load false 1 (.tmp 9), none⟩, 
    ⟨(some 11), .call (.func 49) [(.tmp 10)], none⟩, 
    ⟨(some 8), .mov (.tmp 11), none⟩, 
    ⟨(some 12), .extract (.tmp 8) 0, none⟩, 
    ⟨(some 13), .extract (.tmp 8) 1, none⟩, 
    ⟨(some 14), .extract (.tmp 8) 2, none⟩, 
    ⟨(some 3), .mov (.tmp 12), none⟩, 
    ⟨(some 4), .mov (.tmp 13), none⟩, 
    ⟨(some 5), .mov (.tmp 14), none⟩])
  (.seq (.seq (.region [
    ⟨(some 15), .faddr 0 (.tmp 1), none⟩, 
    ⟨(some 16), .load false 1 (.tmp 15), none⟩, 
    ⟨(some 17), .bin .lss .num (.tmp 16) (.const (.int .u8 1)), none⟩, 
    ⟨(some 18), .mov (.tmp 17), none⟩, 
    ⟨(some 19), .faddr 0 (.tmp 1), (some (18, false))⟩, 
    ⟨(some 20), .load false 1 (.tmp 19), (some (18, false))⟩, 
    ⟨(some 21), .bin .gtr .num (.tmp 20) (.const (.int .u8 16)), (some (18, false))⟩, 
    ⟨(some 22), .pick (.tmp 18) (.const (.bool true)) (.tmp 21), none⟩, 
    ⟨(some 23), .mov (.tmp 22), none⟩, 
    ⟨(some 24), .faddr 3 (.tmp 1), (some (23, false))⟩, 
    ⟨(some 25), .load false 1 (.tmp 24), (some (23, false))⟩, 
    ⟨(some 26), .len (.tmp 25), (some (23, false))⟩, 
    ⟨(some 27), .mov (.tmp 3), (some (23, false))⟩, 
    ⟨(some 28), .bin .neq .num (.tmp 26) (.tmp 27), (some (23, false))⟩, 
    ⟨(some 29), .pick (.tmp 23) (.const (.bool true)) (.tmp 28), none⟩])
  (.cond (.tmp 29)
    (.seq (.region [
      ⟨(some 2), .mov (.const (.int .i64 1)), none⟩])
    .ret)
    .skip))
  (.seq (.seq (.region [
    ⟨(some 30), .faddr 0 (.tmp 1), none⟩, 
    ⟨(some 31), .load false 1 (.tmp 30), none⟩, 
    ⟨(some 32), .bin .neq .num (.tmp 31) (.const (.int .u8 1)), none⟩, 
    ⟨(some 33), .mov (.tmp 32), none⟩, 
    ⟨(some 34), .faddr 1 (.tmp 1), (some (33, true))⟩, 
    ⟨(some 35), .load false 1 (.tmp 34), (some (33, true))⟩, 
    ⟨(some 36), .bin .neq .num (.tmp 35) (.const (.int .i64 0)), (some (33, true))⟩, 
    ⟨(some 37), .pick (.tmp 33) (.tmp 36) (.const (.bool false)), none⟩, 
    ⟨(some 38), .mov (.tmp 37), none⟩, 
    ⟨(some 39), .faddr 2 (.tmp 1), (some (38, false))⟩, 
    ⟨(some 40), .load false 1 (.tmp 39), (some (38, false))⟩, 
    ⟨(some 41), .len (.tmp 40), (some (38, false))⟩, 
    ⟨(some 42), .mov (.tmp 4), (some (38, false))⟩, 
    ⟨(some 43), .bin .lss .num (.tmp 41) (.tmp 42), (some (38, false))⟩, 
    ⟨(some 44), .pick (.tmp 38) (.const (.bool true)) (.tmp 43), none⟩, 
    ⟨(some 45), .mov (.tmp 44), none⟩, 
    ⟨(some 46), .faddr 2 (.tmp 1), (some (45, false))⟩, 
    ⟨(some 47), .load false 1 (.tmp 46), (some (45, false))⟩, 
    ⟨(some 48), .len (.tmp 47), (some (45, false))⟩, 
    ⟨(some 49), .mov (.tmp 5), (some (45, false))⟩, 
    ⟨(some 50), .bin .gtr .num (.tmp 48) (.tmp 49), (some (45, false))⟩, 
    ⟨(some 51), .pick (.tmp 45) (.const (.bool true)) (.tmp 50), none⟩])
  (.cond (.tmp 51)
    (.seq (.region [
      ⟨(some 2), .mov (.const (.int .i64 6)), none⟩])
    .ret)
    .skip))
  (.seq (.seq (.region [
    ⟨(some 52), .faddr 1 (.tmp 1), none⟩, 
    ⟨(some 53), .load false 1 (.tmp 52), none⟩, 
    ⟨(some 54), .bin .lss .num (.tmp 53) (.const (.int .i64 0)), none⟩, 
    ⟨(some 55), .mov (.tmp 54), none⟩, 
    ⟨(some 56), .faddr 1 (.tmp 1), (some (55, false))⟩, 
    ⟨(some 57), .load false 1 (.tmp 56), (some (55, false))⟩, 
    ⟨(some 58), .bin .gtr .num (.tmp 57) (.const (.int .i64 999999)), (some (55, false))⟩, 
    ⟨(some 59), .pick (.tmp 55) (.const (.bool true)) (.tmp 58), none⟩])
  (.cond (.tmp 59)
    (.seq (.region [
      ⟨(some 2), .mov (.const (.int .i64 2)), none⟩])
    .ret)
    .skip))
  (.seq (.seq (.region [
    ⟨(some 60), .faddr 2 (.tmp 1), none⟩, 
    ⟨(some 61), .load false 1 (.tmp 60), none⟩, 
    ⟨(some 62), .len (.tmp 61), none⟩, 
    ⟨(some 63), .mov (.const (.int .i64 0)), none⟩])
  (.block 0
    (.loop
      (.seq (.region [
        ⟨(some 64), .bin .lss .num (.tmp 63) (.tmp 62), none⟩])
      (.seq (.cond (.tmp 64)
        .skip
        (.exit 0))
      (.seq (.block 1
        (.seq (.region [
          ⟨(some 65), .iaddr 1 (.tmp 61) (.tmp 63), none⟩, 
          ⟨(some 66), .load false 1 (.tmp 65), none⟩, 
          ⟨(some 7), .mov (.tmp 66), none⟩])
        (.seq (.region [
          ⟨(some 67), .mov (.tmp 7), none⟩, 
          ⟨(some 68), .bin .lss .num (.tmp 67) (.const (.int .i64 1)), none⟩, 
          ⟨(some 69), .mov (.tmp 68), none⟩, 
          ⟨(some 70), .mov (.tmp 7), (some (69, false))⟩, 
          ⟨(some 71), .bin .gtr .num (.tmp 70) (.const (.int .i64 63)), (some (69, false))⟩, 
          ⟨(some 72), .pick (.tmp 69) (.const (.bool true)) (.tmp 71), none⟩])
        (.cond (.tmp 72)
          (.seq (.region [
            ⟨(some 2), .mov (.const (.int .i64 2)), none⟩])
          .ret)
          .skip))))
      (.region [
        ⟨(some 73), .bin .add .num (.tmp 63) (.const (.int .i64 1)), none⟩, 
        ⟨(some 63), .mov (.tmp 73), none⟩])))))))
  (.seq (.seq (.draw [
    ⟨0, ⟨(some 74), .faddr 2 (.tmp 1), none⟩, 0, false, false⟩, 
    ⟨1, ⟨(some 75), .load false 1 (.tmp 74), none⟩, 1, false, false⟩, 
    ⟨2, ⟨(some 76), .call (.func 16) [(.tmp 75)], none⟩, 3, false, false⟩, 
    ⟨3, ⟨(some 77), .call (.func 50) [(.tmp 76)], none⟩, 7, false, false⟩, 
    ⟨4, ⟨(some 78), .faddr 2 (.tmp 1), none⟩, 0, false, false⟩, 
    ⟨5, ⟨(some 79), .load false 1 (.tmp 78), none⟩, 16, false, false⟩, 
    ⟨6, ⟨(some 80), .len (.tmp 79), none⟩, 48, false, false⟩, 
    ⟨7, ⟨(some 81), .bin .neq .num (.tmp 77) (.tmp 80), none⟩, 127, true, false⟩])
  (.cond (.tmp 81)
    (.seq (.region [
      ⟨(some 2), .mov (.const (.int .i64 5)), none⟩])
    .ret)
    .skip))
  (.seq (.region [
    ⟨(some 2), .mov (.const (.int .i64 0)), none⟩])
  .ret))))))))
theorem ok48 : FnOk Try.prog 48 82 ir48 [.tmp 2] := fnOk_of mixed Try.func48 (by kernel_rfl) Try.ntmps48 (by kernel_rfl) (by kernel_rfl)

/-- arbac/formula.arity -/
def ir49 : ACode :=
  (.seq (.region [
    ⟨(some 2), .mov (.const (.int .i64 0)), none⟩, 
    ⟨(some 3), .mov (.const (.int .i64 0)), none⟩, 
    ⟨(some 4), .mov (.const (.int .i64 0)), none⟩])
  (.seq (.block 0
    (.seq (.region [
      ⟨(some 6), .mov (.tmp 0), none⟩, 
      ⟨(some 7), .bin .geq .num (.tmp 6) (.const (.int .u8 8)), none⟩, 
      ⟨(some 5), .mov (.tmp 7), none⟩])
    (.cond (.tmp 5)
      (.seq (.region [
        ⟨(some 2), .mov (.const (.int .i64 2)), none⟩, 
        ⟨(some 3), .mov (.const (.int .i64 0)), none⟩, 
        ⟨(some 4), .mov (.const (.int .i64 0)), none⟩])
      .ret)
      (.seq (.region [
        ⟨(some 9), .mov (.tmp 0), none⟩, 
        ⟨(some 10), .bin .eql .num (.tmp 9) (.const (.int .u8 7)), none⟩, 
        ⟨(some 8), .mov (.tmp 10), none⟩])
      (.cond (.tmp 8)
        (.seq (.region [
          ⟨(some 2), .mov (.const (.int .i64 1)), none⟩, 
          ⟨(some 3), .mov (.const (.int .i64 0)), none⟩, 
          ⟨(some 4), .mov (.const (.int .i64 0)), none⟩])
        .ret)
        (.seq (.region [
          ⟨(some 12), .mov (.tmp 0), none⟩, 
          ⟨(some 13), .bin .eql .num (.tmp 12) (.const (.int .u8 4)), none⟩, 
          ⟨(some 14), .mov (.tmp 13), none⟩, 
          ⟨(some 15), .mov (.tmp 0), (some (14, false))⟩, 
          ⟨(some 16), .bin .eql .num (.tmp 15) (.const (.int .u8 6)), (some (14, false))⟩, 
          ⟨(some 17), .pick (.tmp 14) (.const (.bool true)) (.tmp 16), none⟩, 
          ⟨(some 11), .mov (.tmp 17), none⟩])
        (.cond (.tmp 11)
          (.seq (.region [
            ⟨(some 2), .mov (.const (.int .i64 0)), none⟩, 
            ⟨(some 3), .mov (.const (.int .i64 1)), none⟩, 
            ⟨(some 4), .mov (.const (.int .i64 1)), none⟩])
          .ret)
          (.seq (.region [
            ⟨(some 19), .mov (.tmp 0), none⟩, 
            ⟨(some 20), .bin .eql .num (.tmp 19) (.const (.int .u8 5)), none⟩, 
            ⟨(some 18), .mov (.tmp 20), none⟩])
          (.cond (.tmp 18)
            (.seq (.region [
              ⟨(some 2), .mov (.const (.int .i64 0)), none⟩, 
              ⟨(some 3), .mov (.const (.int .i64 1)), none⟩, 
              ⟨(some 4), .mov (.const (.int .i64 8)), none⟩])
            .ret)
            .skip)))))))))
  (.seq (.region [
    ⟨(some 2), .mov (.const (.int .i64 0)), none⟩, 
    ⟨(some 3), .mov (.const (.int .i64 0)), none⟩, 
    ⟨(some 4), .mov (.const (.int .i64 0)), none⟩])
  .ret)))
theorem ok49 : FnOk Try.prog 49 21 ir49 [.tmp 2, .tmp 3, .tmp 4] := fnOk_of mixed Try.func49 (by kernel_rfl) Try.ntmps49 (by kernel_rfl) (by kernel_rfl)

/-- (arbac/bits.Set).Len -/
def ir50 : ACode :=
  (.seq (.region [
    ⟨(some 1), .box (.tmp 0), none⟩, 
    ⟨(some 2), .mov (.const (.int .i64 0)), none⟩])
  (.seq (.region [
    ⟨(some 3), .mov (.const (.int .i64 0)), none⟩])
  (.seq (.seq (.region [
    ⟨(some 6), .faddr 0 (.tmp 1), none⟩, 
    ⟨(some 7), .load false 1 (.tmp 6), none⟩, 
    ⟨(some 8), .len (.tmp 7), none⟩, 
    ⟨(some 9), .mov (.const (.int .i64 0)), none⟩])
  (.block 0
    (.loop
      (.seq (.region [
        ⟨(some 10), .bin .lss .num (.tmp 9) (.tmp 8), none⟩])
      (.seq (.cond (.tmp 10)
        .skip
        (.exit 0))
      (.seq (.block 1
        (.seq (.region [
          ⟨(some 11), .iaddr 1 (.tmp 7) (.tmp 9), none⟩, 
          ⟨(some 12), .load false 1 (.tmp 11), none⟩, 
          ⟨(some 5), .mov (.tmp 12), none⟩])
        (.region [
          ⟨(some 13), .mov (.tmp 3), none⟩, 
          ⟨(some 14), .mov (.tmp 5), none⟩, 
          ⟨(some 15), .call (.func 51) [(.tmp 14)], none⟩, 
          ⟨(some 16), .bin .add .num (.tmp 13) (.tmp 15), none⟩, 
          ⟨(some 3), .mov (.tmp 16), none⟩])))
      (.region [
        ⟨(some 17), .bin .add .num (.tmp 9) (.const (.int .i64 1)), none⟩, 
        ⟨(some 9), .mov (.tmp 17), none⟩])))))))
  (.seq (.region [
    ⟨(some 18), .mov (.tmp 3), none⟩, 
    ⟨(some 2), .mov (.tmp 18), none⟩])
  .ret))))
theorem ok50 : FnOk Try.prog 50 19 ir50 [.tmp 2] := fnOk_of mixed Try.func50 (by kernel_rfl) Try.ntmps50 (by kernel_rfl) (by kernel_rfl)

/-- math/bits.OnesCount64 -/
def ir51 : ACode :=
  (.seq (.region [
    ⟨(some 2), .mov (.const (.int .i64 0)), none⟩])
  (.seq (.region [
    ⟨(some 3), .mov (.tmp 0), none⟩, 
    ⟨(some 4), .bin .shr .num (.tmp 3) (.const (.int .u64 1)), none⟩, 
    ⟨(some 5), .bin .and .num (.tmp 4) (.const (.int .u64 6148914691236517205)), none⟩, 
    ⟨(some 6), .mov (.tmp 0), none⟩, 
    ⟨(some 7), .bin .and .num (.tmp 6) (.const (.int .u64 6148914691236517205)), none⟩, 
    ⟨(some 8), .bin .add .num (.tmp 5) (.tmp 7), none⟩, 
    ⟨(some 0), .mov (.tmp 8), none⟩])
  (.seq (.region [
    ⟨(some 9), .mov (.tmp 0), none⟩, 
    ⟨(some 10), .bin .shr .num (.tmp 9) (.const (.int .u64 2)), none⟩, 
    ⟨(some 11), .bin .and .num (.tmp 10) (.const (.int .u64 3689348814741910323)), none⟩, 
    ⟨(some 12), .mov (.tmp 0), none⟩, 
    ⟨(some 13), .bin .and .num (.tmp 12) (.const (.int .u64 3689348814741910323)), none⟩, 
    ⟨(some 14), .bin .add .num (.tmp 11) (.tmp 13), none⟩, 
    ⟨(some 0), .mov (.tmp 14), none⟩])
  (.seq (.region [
    ⟨(some 15), .mov (.tmp 0), none⟩, 
    ⟨(some 16), .bin .shr .num (.tmp 15) (.const (.int .u64 4)), none⟩, 
    ⟨(some 17), .mov (.tmp 0), none⟩, 
    ⟨(some 18), .bin .add .num (.tmp 16) (.tmp 17), none⟩, 
    ⟨(some 19), .bin .and .num (.tmp 18) (.const (.int .u64 1085102592571150095)), none⟩, 
    ⟨(some 0), .mov (.tmp 19), none⟩])
  (.seq (.region [
    ⟨(some 20), .mov (.tmp 0), none⟩, 
    ⟨(some 21), .mov (.tmp 0), none⟩, 
    ⟨(some 22), .bin .shr .num (.tmp 21) (.const (.int .u64 8)), none⟩, 
    ⟨(some 23), .bin .add .num (.tmp 20) (.tmp 22), none⟩, 
    ⟨(some 0), .mov (.tmp 23), none⟩])
  (.seq (.region [
    ⟨(some 24), .mov (.tmp 0), none⟩, 
    ⟨(some 25), .mov (.tmp 0), none⟩, 
    ⟨(some 26), .bin .shr .num (.tmp 25) (.const (.int .u64 16)), none⟩, 
    ⟨(some 27), .bin .add .num (.tmp 24) (.tmp 26), none⟩, 
    ⟨(some 0), .mov (.tmp 27), none⟩])
  (.seq (.region [
    ⟨(some 28), .mov (.tmp 0), none⟩, 
    ⟨(some 29), .mov (.tmp 0), none⟩, 
    ⟨(some 30), .bin .shr .num (.tmp 29) (.const (.int .u64 32)), none⟩, 
    ⟨(some 31), .bin .add .num (.tmp 28) (.tmp 30), none⟩, 
    ⟨(some 0), .mov (.tmp 31), none⟩])
  (.seq (.region [
    ⟨(some 32), .mov (.tmp 0), none⟩, 
    ⟨(some 33), .conv .i64 (.tmp 32), none⟩, 
    ⟨(some 34), .bin .and .num (.tmp 33) (.const (.int .i64 127)), none⟩, 
    ⟨(some 2), .mov (.tmp 34), none⟩])
  .ret))))))))
theorem ok51 : FnOk Try.prog 51 35 ir51 [.tmp 2] := fnOk_of mixed Try.func51 (by kernel_rfl) Try.ntmps51 (by kernel_rfl) (by kernel_rfl)

end Go.Proofs.Ytelcpkjclcimbaa
