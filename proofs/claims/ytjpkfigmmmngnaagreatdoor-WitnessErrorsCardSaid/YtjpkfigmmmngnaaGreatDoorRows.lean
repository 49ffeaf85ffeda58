/-
  NARROWER THAN 'FOR EVERY INPUT', by the rows' own cells (each row's printed sentence says how): WitnessMends: laid · WitnessOf: laid · WitnessRepairs: laid · WitnessAdditions: laid · WitnessMonotone: laid · WitnessLeast: laid · WitnessNormal: laid · WitnessErrors: laid · WitnessTexts: laid.
  DERIVED. THE GIVEN ROWS OF THIS SEAT. 9 by the template 'for every input the law returns true; each argument reads behind the call as it read before'; 0 by the template 'total and deterministic' (their statements: YtjpkfigmmmngnaaGreatDoorTotals.lean).
  GIVEN WITH THE SEED: the statements are not yours to turn. If you find one false, say at which input.
  Laid BY PROGRAM, IN A SANDBOX (cutbox-rows.mjs): the forced cells as the released guide's own fill.sh prints them over the translation a3de01861843cb98… (all of the seat's roots in one cut). By AI agents, Wed Nov 11 2026. No macro, syntax, notation, axiom, sorry.
-/
import Derived.Test.YtjpkfigmmmngnaaGreatDoorChecked
import GoSem.Claim
import GoSem.ClaimJoined
import GoSem.ClaimMapViews
import Derived.JoinedTies
import Derived.KernelRfl
namespace Go.Proofs.YtjpkfigmmmngnaaGreatDoor
/- THE CELL 'sum', in the pinned program and in every row, IS THE sha256 OF THE DUMP (.gsa) THAT YtjpkfigmmmngnaaGreatDoorProg.lean LOADS. Nothing in Lean hashes anything: it is a label: what it is worth is what the hold of that sum in a sandbox is worth. -/
noncomputable def Tryz.pinned : Pinned := { name := "ytjpkfigmmmngnaagreatdoor", sum := "a3de01861843cb98a0cdd372d43a00bed5bebdca264b3c39d57e4bb383b3fd68", checked := Tryz.checked }
namespace Rows
def none {H : Type} : Left H := { results := [], args := [] }

/- WHAT THE LISTED PACKAGE-LEVEL VARIABLES READ AS WHEN THE CALL BEGINS. Each datum BY PROGRAM (the guide's laid-datum.mjs) off the statement by which the dump's own 'gosem.cut.vars' lays the variable. In a bare row this is a premise. The card (YtjpkfigmmmngnaaGreatDoorCards.lean) ties it to the program's text. -/
def laid_math_bits_deBruijn32tab {H : Type} : DataW H := .agg [.lit (.int .u8 0), .lit (.int .u8 1), .lit (.int .u8 28), .lit (.int .u8 2), .lit (.int .u8 29), .lit (.int .u8 14), .lit (.int .u8 24), .lit (.int .u8 3), .lit (.int .u8 30), .lit (.int .u8 22), .lit (.int .u8 20), .lit (.int .u8 15), .lit (.int .u8 25), .lit (.int .u8 17), .lit (.int .u8 4), .lit (.int .u8 8), .lit (.int .u8 31), .lit (.int .u8 27), .lit (.int .u8 13), .lit (.int .u8 23), .lit (.int .u8 21), .lit (.int .u8 19), .lit (.int .u8 16), .lit (.int .u8 7), .lit (.int .u8 26), .lit (.int .u8 12), .lit (.int .u8 18), .lit (.int .u8 6), .lit (.int .u8 11), .lit (.int .u8 5), .lit (.int .u8 10), .lit (.int .u8 9)]
def laid_math_bits_deBruijn64tab {H : Type} : DataW H := .agg [.lit (.int .u8 0), .lit (.int .u8 1), .lit (.int .u8 56), .lit (.int .u8 2), .lit (.int .u8 57), .lit (.int .u8 49), .lit (.int .u8 28), .lit (.int .u8 3), .lit (.int .u8 61), .lit (.int .u8 58), .lit (.int .u8 42), .lit (.int .u8 50), .lit (.int .u8 38), .lit (.int .u8 29), .lit (.int .u8 17), .lit (.int .u8 4), .lit (.int .u8 62), .lit (.int .u8 47), .lit (.int .u8 59), .lit (.int .u8 36), .lit (.int .u8 45), .lit (.int .u8 43), .lit (.int .u8 51), .lit (.int .u8 22), .lit (.int .u8 53), .lit (.int .u8 39), .lit (.int .u8 33), .lit (.int .u8 30), .lit (.int .u8 24), .lit (.int .u8 18), .lit (.int .u8 12), .lit (.int .u8 5), .lit (.int .u8 63), .lit (.int .u8 55), .lit (.int .u8 48), .lit (.int .u8 27), .lit (.int .u8 60), .lit (.int .u8 41), .lit (.int .u8 37), .lit (.int .u8 16), .lit (.int .u8 46), .lit (.int .u8 35), .lit (.int .u8 44), .lit (.int .u8 21), .lit (.int .u8 52), .lit (.int .u8 32), .lit (.int .u8 23), .lit (.int .u8 11), .lit (.int .u8 54), .lit (.int .u8 26), .lit (.int .u8 40), .lit (.int .u8 15), .lit (.int .u8 34), .lit (.int .u8 20), .lit (.int .u8 31), .lit (.int .u8 10), .lit (.int .u8 25), .lit (.int .u8 14), .lit (.int .u8 19), .lit (.int .u8 9), .lit (.int .u8 13), .lit (.int .u8 8), .lit (.int .u8 7), .lit (.int .u8 6)]
def laid_internal_strconv_uint64pow10 {H : Type} : DataW H := .agg [.lit (.int .u64 1), .lit (.int .u64 10), .lit (.int .u64 100), .lit (.int .u64 1000), .lit (.int .u64 10000), .lit (.int .u64 100000), .lit (.int .u64 1000000), .lit (.int .u64 10000000), .lit (.int .u64 100000000), .lit (.int .u64 1000000000), .lit (.int .u64 10000000000), .lit (.int .u64 100000000000), .lit (.int .u64 1000000000000), .lit (.int .u64 10000000000000), .lit (.int .u64 100000000000000), .lit (.int .u64 1000000000000000), .lit (.int .u64 10000000000000000), .lit (.int .u64 100000000000000000), .lit (.int .u64 1000000000000000000), .lit (.int .u64 10000000000000000000)]

/-- 'arbaclaw21.WitnessMends': WHATEVER THE INPUT: true; the input reads as it did. -/
def witnessMendsSpec : ChangeSpec := { name := "witnessMends", fn := fun _ => fun
  | [d1, d2, d3] => { results := [.lit (.bool true)], args := [d1, d2, d3] }
  | _ => none }
def witnessMendsRow : OpenClaim := { program := "ytjpkfigmmmngnaagreatdoor", sum := "a3de01861843cb98a0cdd372d43a00bed5bebdca264b3c39d57e4bb383b3fd68", func := "arbac/arbaclaw21.WitnessMends", spec := "witnessMends", inPlace := ["internal/abi.NoEscape", "internal/bytealg.MakeNoZero"], unfollowed := true, recurses := true, named := ["math/bits.deBruijn64tab", "internal/strconv.uint64pow10", "math/bits.deBruijn32tab"], plainKeys := false, apart := false, laid := [("math/bits.deBruijn32tab", laid_math_bits_deBruijn32tab), ("math/bits.deBruijn64tab", laid_math_bits_deBruijn64tab), ("internal/strconv.uint64pow10", laid_internal_strconv_uint64pow10)] }
def WitnessMendsSaid : Prop := witnessMendsRow.holds Tryz.pinned (OpenSpec.ofChange witnessMendsSpec)

/-- ITS FALSE NEIGHBOUR: 'it returns false'. Refute it at one input. -/
def witnessMendsWrong : ChangeSpec := { name := "witnessMends", fn := fun _ => fun
  | [d1, d2, d3] => { results := [.lit (.bool false)], args := [d1, d2, d3] }
  | _ => none }
def WitnessMendsWrongFalsely : Prop := witnessMendsRow.holds Tryz.pinned (OpenSpec.ofChange witnessMendsWrong)

/-- 'arbaclaw21.WitnessOf': WHATEVER THE INPUT: true; the input reads as it did. -/
def witnessOfSpec : ChangeSpec := { name := "witnessOf", fn := fun _ => fun
  | [d1, d2] => { results := [.lit (.bool true)], args := [d1, d2] }
  | _ => none }
def witnessOfRow : OpenClaim := { program := "ytjpkfigmmmngnaagreatdoor", sum := "a3de01861843cb98a0cdd372d43a00bed5bebdca264b3c39d57e4bb383b3fd68", func := "arbac/arbaclaw21.WitnessOf", spec := "witnessOf", inPlace := ["internal/abi.NoEscape", "internal/bytealg.MakeNoZero"], unfollowed := true, recurses := true, named := ["math/bits.deBruijn64tab", "internal/strconv.uint64pow10", "math/bits.deBruijn32tab"], plainKeys := false, apart := false, laid := [("math/bits.deBruijn32tab", laid_math_bits_deBruijn32tab), ("math/bits.deBruijn64tab", laid_math_bits_deBruijn64tab), ("internal/strconv.uint64pow10", laid_internal_strconv_uint64pow10)] }
def WitnessOfSaid : Prop := witnessOfRow.holds Tryz.pinned (OpenSpec.ofChange witnessOfSpec)

/-- ITS FALSE NEIGHBOUR: 'it returns false'. Refute it at one input. -/
def witnessOfWrong : ChangeSpec := { name := "witnessOf", fn := fun _ => fun
  | [d1, d2] => { results := [.lit (.bool false)], args := [d1, d2] }
  | _ => none }
def WitnessOfWrongFalsely : Prop := witnessOfRow.holds Tryz.pinned (OpenSpec.ofChange witnessOfWrong)

/-- 'arbaclaw21.WitnessRepairs': WHATEVER THE INPUT: true; the input reads as it did. -/
def witnessRepairsSpec : ChangeSpec := { name := "witnessRepairs", fn := fun _ => fun
  | [d1, d2, d3] => { results := [.lit (.bool true)], args := [d1, d2, d3] }
  | _ => none }
def witnessRepairsRow : OpenClaim := { program := "ytjpkfigmmmngnaagreatdoor", sum := "a3de01861843cb98a0cdd372d43a00bed5bebdca264b3c39d57e4bb383b3fd68", func := "arbac/arbaclaw21.WitnessRepairs", spec := "witnessRepairs", inPlace := ["internal/abi.NoEscape", "internal/bytealg.MakeNoZero"], unfollowed := true, recurses := true, named := ["math/bits.deBruijn64tab", "internal/strconv.uint64pow10", "math/bits.deBruijn32tab"], plainKeys := false, apart := false, laid := [("math/bits.deBruijn32tab", laid_math_bits_deBruijn32tab), ("math/bits.deBruijn64tab", laid_math_bits_deBruijn64tab), ("internal/strconv.uint64pow10", laid_internal_strconv_uint64pow10)] }
def WitnessRepairsSaid : Prop := witnessRepairsRow.holds Tryz.pinned (OpenSpec.ofChange witnessRepairsSpec)

/-- ITS FALSE NEIGHBOUR: 'it returns false'. Refute it at one input. -/
def witnessRepairsWrong : ChangeSpec := { name := "witnessRepairs", fn := fun _ => fun
  | [d1, d2, d3] => { results := [.lit (.bool false)], args := [d1, d2, d3] }
  | _ => none }
def WitnessRepairsWrongFalsely : Prop := witnessRepairsRow.holds Tryz.pinned (OpenSpec.ofChange witnessRepairsWrong)

/-- 'arbaclaw21.WitnessAdditions': WHATEVER THE INPUT: true; the input reads as it did. -/
def witnessAdditionsSpec : ChangeSpec := { name := "witnessAdditions", fn := fun _ => fun
  | [d1, d2, d3] => { results := [.lit (.bool true)], args := [d1, d2, d3] }
  | _ => none }
def witnessAdditionsRow : OpenClaim := { program := "ytjpkfigmmmngnaagreatdoor", sum := "a3de01861843cb98a0cdd372d43a00bed5bebdca264b3c39d57e4bb383b3fd68", func := "arbac/arbaclaw21.WitnessAdditions", spec := "witnessAdditions", inPlace := ["internal/abi.NoEscape", "internal/bytealg.MakeNoZero"], unfollowed := true, recurses := true, named := ["math/bits.deBruijn64tab", "internal/strconv.uint64pow10", "math/bits.deBruijn32tab"], plainKeys := false, apart := false, laid := [("math/bits.deBruijn32tab", laid_math_bits_deBruijn32tab), ("math/bits.deBruijn64tab", laid_math_bits_deBruijn64tab), ("internal/strconv.uint64pow10", laid_internal_strconv_uint64pow10)] }
def WitnessAdditionsSaid : Prop := witnessAdditionsRow.holds Tryz.pinned (OpenSpec.ofChange witnessAdditionsSpec)

/-- ITS FALSE NEIGHBOUR: 'it returns false'. Refute it at one input. -/
def witnessAdditionsWrong : ChangeSpec := { name := "witnessAdditions", fn := fun _ => fun
  | [d1, d2, d3] => { results := [.lit (.bool false)], args := [d1, d2, d3] }
  | _ => none }
def WitnessAdditionsWrongFalsely : Prop := witnessAdditionsRow.holds Tryz.pinned (OpenSpec.ofChange witnessAdditionsWrong)

/-- 'arbaclaw21.WitnessMonotone': WHATEVER THE INPUT: true; the input reads as it did. -/
def witnessMonotoneSpec : ChangeSpec := { name := "witnessMonotone", fn := fun _ => fun
  | [d1, d2, d3] => { results := [.lit (.bool true)], args := [d1, d2, d3] }
  | _ => none }
def witnessMonotoneRow : OpenClaim := { program := "ytjpkfigmmmngnaagreatdoor", sum := "a3de01861843cb98a0cdd372d43a00bed5bebdca264b3c39d57e4bb383b3fd68", func := "arbac/arbaclaw21.WitnessMonotone", spec := "witnessMonotone", inPlace := ["internal/abi.NoEscape", "internal/bytealg.MakeNoZero"], unfollowed := true, recurses := true, named := ["math/bits.deBruijn64tab", "internal/strconv.uint64pow10", "math/bits.deBruijn32tab"], plainKeys := false, apart := false, laid := [("math/bits.deBruijn32tab", laid_math_bits_deBruijn32tab), ("math/bits.deBruijn64tab", laid_math_bits_deBruijn64tab), ("internal/strconv.uint64pow10", laid_internal_strconv_uint64pow10)] }
def WitnessMonotoneSaid : Prop := witnessMonotoneRow.holds Tryz.pinned (OpenSpec.ofChange witnessMonotoneSpec)

/-- ITS FALSE NEIGHBOUR: 'it returns false'. Refute it at one input. -/
def witnessMonotoneWrong : ChangeSpec := { name := "witnessMonotone", fn := fun _ => fun
  | [d1, d2, d3] => { results := [.lit (.bool false)], args := [d1, d2, d3] }
  | _ => none }
def WitnessMonotoneWrongFalsely : Prop := witnessMonotoneRow.holds Tryz.pinned (OpenSpec.ofChange witnessMonotoneWrong)

/-- 'arbaclaw21.WitnessLeast': WHATEVER THE INPUT: true; the input reads as it did. -/
def witnessLeastSpec : ChangeSpec := { name := "witnessLeast", fn := fun _ => fun
  | [d1, d2, d3] => { results := [.lit (.bool true)], args := [d1, d2, d3] }
  | _ => none }
def witnessLeastRow : OpenClaim := { program := "ytjpkfigmmmngnaagreatdoor", sum := "a3de01861843cb98a0cdd372d43a00bed5bebdca264b3c39d57e4bb383b3fd68", func := "arbac/arbaclaw21.WitnessLeast", spec := "witnessLeast", inPlace := ["internal/abi.NoEscape", "internal/bytealg.MakeNoZero"], unfollowed := true, recurses := true, named := ["math/bits.deBruijn64tab", "internal/strconv.uint64pow10", "math/bits.deBruijn32tab"], plainKeys := false, apart := false, laid := [("math/bits.deBruijn32tab", laid_math_bits_deBruijn32tab), ("math/bits.deBruijn64tab", laid_math_bits_deBruijn64tab), ("internal/strconv.uint64pow10", laid_internal_strconv_uint64pow10)] }
def WitnessLeastSaid : Prop := witnessLeastRow.holds Tryz.pinned (OpenSpec.ofChange witnessLeastSpec)

/-- ITS FALSE NEIGHBOUR: 'it returns false'. Refute it at one input. -/
def witnessLeastWrong : ChangeSpec := { name := "witnessLeast", fn := fun _ => fun
  | [d1, d2, d3] => { results := [.lit (.bool false)], args := [d1, d2, d3] }
  | _ => none }
def WitnessLeastWrongFalsely : Prop := witnessLeastRow.holds Tryz.pinned (OpenSpec.ofChange witnessLeastWrong)

/-- 'arbaclaw21.WitnessNormal': WHATEVER THE INPUT: true; the input reads as it did. -/
def witnessNormalSpec : ChangeSpec := { name := "witnessNormal", fn := fun _ => fun
  | [d1, d2] => { results := [.lit (.bool true)], args := [d1, d2] }
  | _ => none }
def witnessNormalRow : OpenClaim := { program := "ytjpkfigmmmngnaagreatdoor", sum := "a3de01861843cb98a0cdd372d43a00bed5bebdca264b3c39d57e4bb383b3fd68", func := "arbac/arbaclaw21.WitnessNormal", spec := "witnessNormal", inPlace := ["internal/abi.NoEscape", "internal/bytealg.MakeNoZero"], unfollowed := true, recurses := true, named := ["math/bits.deBruijn64tab", "internal/strconv.uint64pow10", "math/bits.deBruijn32tab"], plainKeys := false, apart := false, laid := [("math/bits.deBruijn32tab", laid_math_bits_deBruijn32tab), ("math/bits.deBruijn64tab", laid_math_bits_deBruijn64tab), ("internal/strconv.uint64pow10", laid_internal_strconv_uint64pow10)] }
def WitnessNormalSaid : Prop := witnessNormalRow.holds Tryz.pinned (OpenSpec.ofChange witnessNormalSpec)

/-- ITS FALSE NEIGHBOUR: 'it returns false'. Refute it at one input. -/
def witnessNormalWrong : ChangeSpec := { name := "witnessNormal", fn := fun _ => fun
  | [d1, d2] => { results := [.lit (.bool false)], args := [d1, d2] }
  | _ => none }
def WitnessNormalWrongFalsely : Prop := witnessNormalRow.holds Tryz.pinned (OpenSpec.ofChange witnessNormalWrong)

/-- 'arbaclaw21.WitnessErrors': WHATEVER THE INPUT: true; the input reads as it did. -/
def witnessErrorsSpec : ChangeSpec := { name := "witnessErrors", fn := fun _ => fun
  | [d1, d2, d3] => { results := [.lit (.bool true)], args := [d1, d2, d3] }
  | _ => none }
def witnessErrorsRow : OpenClaim := { program := "ytjpkfigmmmngnaagreatdoor", sum := "a3de01861843cb98a0cdd372d43a00bed5bebdca264b3c39d57e4bb383b3fd68", func := "arbac/arbaclaw21.WitnessErrors", spec := "witnessErrors", inPlace := ["internal/abi.NoEscape", "internal/bytealg.MakeNoZero"], unfollowed := true, recurses := true, named := ["math/bits.deBruijn64tab", "internal/strconv.uint64pow10", "math/bits.deBruijn32tab"], plainKeys := false, apart := false, laid := [("math/bits.deBruijn32tab", laid_math_bits_deBruijn32tab), ("math/bits.deBruijn64tab", laid_math_bits_deBruijn64tab), ("internal/strconv.uint64pow10", laid_internal_strconv_uint64pow10)] }
def WitnessErrorsSaid : Prop := witnessErrorsRow.holds Tryz.pinned (OpenSpec.ofChange witnessErrorsSpec)

/-- ITS FALSE NEIGHBOUR: 'it returns false'. Refute it at one input. -/
def witnessErrorsWrong : ChangeSpec := { name := "witnessErrors", fn := fun _ => fun
  | [d1, d2, d3] => { results := [.lit (.bool false)], args := [d1, d2, d3] }
  | _ => none }
def WitnessErrorsWrongFalsely : Prop := witnessErrorsRow.holds Tryz.pinned (OpenSpec.ofChange witnessErrorsWrong)

/-- 'arbaclaw21.WitnessTexts': WHATEVER THE INPUT: true; the input reads as it did. -/
def witnessTextsSpec : ChangeSpec := { name := "witnessTexts", fn := fun _ => fun
  | [d1, d2] => { results := [.lit (.bool true)], args := [d1, d2] }
  | _ => none }
def witnessTextsRow : OpenClaim := { program := "ytjpkfigmmmngnaagreatdoor", sum := "a3de01861843cb98a0cdd372d43a00bed5bebdca264b3c39d57e4bb383b3fd68", func := "arbac/arbaclaw21.WitnessTexts", spec := "witnessTexts", inPlace := ["internal/abi.NoEscape", "internal/bytealg.MakeNoZero", "maps.clone"], unfollowed := true, recurses := true, named := ["math/bits.deBruijn64tab", "internal/strconv.uint64pow10", "math/bits.deBruijn32tab"], plainKeys := false, apart := false, laid := [("math/bits.deBruijn32tab", laid_math_bits_deBruijn32tab), ("math/bits.deBruijn64tab", laid_math_bits_deBruijn64tab), ("internal/strconv.uint64pow10", laid_internal_strconv_uint64pow10)] }
def WitnessTextsSaid : Prop := witnessTextsRow.holds Tryz.pinned (OpenSpec.ofChange witnessTextsSpec)

/-- ITS FALSE NEIGHBOUR: 'it returns false'. Refute it at one input. -/
def witnessTextsWrong : ChangeSpec := { name := "witnessTexts", fn := fun _ => fun
  | [d1, d2] => { results := [.lit (.bool false)], args := [d1, d2] }
  | _ => none }
def WitnessTextsWrongFalsely : Prop := witnessTextsRow.holds Tryz.pinned (OpenSpec.ofChange witnessTextsWrong)

/- THE SECOND FORM. 'bulk': how many values and letters a reading holds, each counted each time it is reached (what is shared counts as often as it is met; a slice's spare places count too). A statement '..UptoSaid' is the law's where the arguments, and the package variables that the reading takes, are together of bulk at most 1048576: NARROWER than '..Said'. Prove '..Said' where nothing that the law and all that it calls make is longer than what came in: it says more and counts as full. Else prove '..UptoSaid'. A law counts once. -/
mutual
def uptoBulk {H : Type} : DataW H → Nat
  | .lit (.string bytes) => bytes.length + 1
  | .lit _ => 1
  | .nil => 1
  | .ptr d => uptoBulk d + 1
  | .slice elems spare => uptoBulkAll elems + uptoBulkAll spare + 1
  | .agg parts => uptoBulkAll parts + 1
  | .iface _ d => uptoBulk d + 1
  | .map entries => uptoBulkEntries entries + 1
  | .held _ => 1
def uptoBulkAll {H : Type} : List (DataW H) → Nat
  | [] => 0
  | d :: r => uptoBulk d + uptoBulkAll r
def uptoBulkEntries {H : Type} : List (Lit × DataW H) → Nat
  | [] => 0
  | x :: r => uptoBulkEntry x + uptoBulkEntries r
def uptoBulkEntry {H : Type} : Lit × DataW H → Nat
  | (.string bytes, d) => bytes.length + uptoBulk d + 1
  | (_, d) => uptoBulk d + 1
 end
def uptoSmall : (H : Type) → List (DataW H) → Bool := fun _ ds => decide (uptoBulkAll ds ≤ 1048576)
def OpenSpec.upto (s : _root_.Go.ChangeSpec) : _root_.Go.OpenSpec := { _root_.Go.OpenSpec.ofChange s with cond := some uptoSmall }

/-- 'arbaclaw21.WitnessMends', WHERE WHAT IT READS IS OF BULK AT MOST 1048576: true; the input reads as it did. -/
def witnessMendsUptoRow : OpenClaim := { program := "ytjpkfigmmmngnaagreatdoor", sum := "a3de01861843cb98a0cdd372d43a00bed5bebdca264b3c39d57e4bb383b3fd68", func := "arbac/arbaclaw21.WitnessMends", spec := "witnessMends", inPlace := ["internal/abi.NoEscape", "internal/bytealg.MakeNoZero"], unfollowed := true, recurses := true, named := ["math/bits.deBruijn64tab", "internal/strconv.uint64pow10", "math/bits.deBruijn32tab"], plainKeys := false, apart := false, laid := [("math/bits.deBruijn32tab", laid_math_bits_deBruijn32tab), ("math/bits.deBruijn64tab", laid_math_bits_deBruijn64tab), ("internal/strconv.uint64pow10", laid_internal_strconv_uint64pow10)], narrowed := true }
def WitnessMendsUptoSaid : Prop := witnessMendsUptoRow.holds Tryz.pinned (OpenSpec.upto witnessMendsSpec)

/-- 'arbaclaw21.WitnessOf', WHERE WHAT IT READS IS OF BULK AT MOST 1048576: true; the input reads as it did. -/
def witnessOfUptoRow : OpenClaim := { program := "ytjpkfigmmmngnaagreatdoor", sum := "a3de01861843cb98a0cdd372d43a00bed5bebdca264b3c39d57e4bb383b3fd68", func := "arbac/arbaclaw21.WitnessOf", spec := "witnessOf", inPlace := ["internal/abi.NoEscape", "internal/bytealg.MakeNoZero"], unfollowed := true, recurses := true, named := ["math/bits.deBruijn64tab", "internal/strconv.uint64pow10", "math/bits.deBruijn32tab"], plainKeys := false, apart := false, laid := [("math/bits.deBruijn32tab", laid_math_bits_deBruijn32tab), ("math/bits.deBruijn64tab", laid_math_bits_deBruijn64tab), ("internal/strconv.uint64pow10", laid_internal_strconv_uint64pow10)], narrowed := true }
def WitnessOfUptoSaid : Prop := witnessOfUptoRow.holds Tryz.pinned (OpenSpec.upto witnessOfSpec)

/-- 'arbaclaw21.WitnessRepairs', WHERE WHAT IT READS IS OF BULK AT MOST 1048576: true; the input reads as it did. -/
def witnessRepairsUptoRow : OpenClaim := { program := "ytjpkfigmmmngnaagreatdoor", sum := "a3de01861843cb98a0cdd372d43a00bed5bebdca264b3c39d57e4bb383b3fd68", func := "arbac/arbaclaw21.WitnessRepairs", spec := "witnessRepairs", inPlace := ["internal/abi.NoEscape", "internal/bytealg.MakeNoZero"], unfollowed := true, recurses := true, named := ["math/bits.deBruijn64tab", "internal/strconv.uint64pow10", "math/bits.deBruijn32tab"], plainKeys := false, apart := false, laid := [("math/bits.deBruijn32tab", laid_math_bits_deBruijn32tab), ("math/bits.deBruijn64tab", laid_math_bits_deBruijn64tab), ("internal/strconv.uint64pow10", laid_internal_strconv_uint64pow10)], narrowed := true }
def WitnessRepairsUptoSaid : Prop := witnessRepairsUptoRow.holds Tryz.pinned (OpenSpec.upto witnessRepairsSpec)

/-- 'arbaclaw21.WitnessAdditions', WHERE WHAT IT READS IS OF BULK AT MOST 1048576: true; the input reads as it did. -/
def witnessAdditionsUptoRow : OpenClaim := { program := "ytjpkfigmmmngnaagreatdoor", sum := "a3de01861843cb98a0cdd372d43a00bed5bebdca264b3c39d57e4bb383b3fd68", func := "arbac/arbaclaw21.WitnessAdditions", spec := "witnessAdditions", inPlace := ["internal/abi.NoEscape", "internal/bytealg.MakeNoZero"], unfollowed := true, recurses := true, named := ["math/bits.deBruijn64tab", "internal/strconv.uint64pow10", "math/bits.deBruijn32tab"], plainKeys := false, apart := false, laid := [("math/bits.deBruijn32tab", laid_math_bits_deBruijn32tab), ("math/bits.deBruijn64tab", laid_math_bits_deBruijn64tab), ("internal/strconv.uint64pow10", laid_internal_strconv_uint64pow10)], narrowed := true }
def WitnessAdditionsUptoSaid : Prop := witnessAdditionsUptoRow.holds Tryz.pinned (OpenSpec.upto witnessAdditionsSpec)

/-- 'arbaclaw21.WitnessMonotone', WHERE WHAT IT READS IS OF BULK AT MOST 1048576: true; the input reads as it did. -/
def witnessMonotoneUptoRow : OpenClaim := { program := "ytjpkfigmmmngnaagreatdoor", sum := "a3de01861843cb98a0cdd372d43a00bed5bebdca264b3c39d57e4bb383b3fd68", func := "arbac/arbaclaw21.WitnessMonotone", spec := "witnessMonotone", inPlace := ["internal/abi.NoEscape", "internal/bytealg.MakeNoZero"], unfollowed := true, recurses := true, named := ["math/bits.deBruijn64tab", "internal/strconv.uint64pow10", "math/bits.deBruijn32tab"], plainKeys := false, apart := false, laid := [("math/bits.deBruijn32tab", laid_math_bits_deBruijn32tab), ("math/bits.deBruijn64tab", laid_math_bits_deBruijn64tab), ("internal/strconv.uint64pow10", laid_internal_strconv_uint64pow10)], narrowed := true }
def WitnessMonotoneUptoSaid : Prop := witnessMonotoneUptoRow.holds Tryz.pinned (OpenSpec.upto witnessMonotoneSpec)

/-- 'arbaclaw21.WitnessLeast', WHERE WHAT IT READS IS OF BULK AT MOST 1048576: true; the input reads as it did. -/
def witnessLeastUptoRow : OpenClaim := { program := "ytjpkfigmmmngnaagreatdoor", sum := "a3de01861843cb98a0cdd372d43a00bed5bebdca264b3c39d57e4bb383b3fd68", func := "arbac/arbaclaw21.WitnessLeast", spec := "witnessLeast", inPlace := ["internal/abi.NoEscape", "internal/bytealg.MakeNoZero"], unfollowed := true, recurses := true, named := ["math/bits.deBruijn64tab", "internal/strconv.uint64pow10", "math/bits.deBruijn32tab"], plainKeys := false, apart := false, laid := [("math/bits.deBruijn32tab", laid_math_bits_deBruijn32tab), ("math/bits.deBruijn64tab", laid_math_bits_deBruijn64tab), ("internal/strconv.uint64pow10", laid_internal_strconv_uint64pow10)], narrowed := true }
def WitnessLeastUptoSaid : Prop := witnessLeastUptoRow.holds Tryz.pinned (OpenSpec.upto witnessLeastSpec)

/-- 'arbaclaw21.WitnessNormal', WHERE WHAT IT READS IS OF BULK AT MOST 1048576: true; the input reads as it did. -/
def witnessNormalUptoRow : OpenClaim := { program := "ytjpkfigmmmngnaagreatdoor", sum := "a3de01861843cb98a0cdd372d43a00bed5bebdca264b3c39d57e4bb383b3fd68", func := "arbac/arbaclaw21.WitnessNormal", spec := "witnessNormal", inPlace := ["internal/abi.NoEscape", "internal/bytealg.MakeNoZero"], unfollowed := true, recurses := true, named := ["math/bits.deBruijn64tab", "internal/strconv.uint64pow10", "math/bits.deBruijn32tab"], plainKeys := false, apart := false, laid := [("math/bits.deBruijn32tab", laid_math_bits_deBruijn32tab), ("math/bits.deBruijn64tab", laid_math_bits_deBruijn64tab), ("internal/strconv.uint64pow10", laid_internal_strconv_uint64pow10)], narrowed := true }
def WitnessNormalUptoSaid : Prop := witnessNormalUptoRow.holds Tryz.pinned (OpenSpec.upto witnessNormalSpec)

/-- 'arbaclaw21.WitnessErrors', WHERE WHAT IT READS IS OF BULK AT MOST 1048576: true; the input reads as it did. -/
def witnessErrorsUptoRow : OpenClaim := { program := "ytjpkfigmmmngnaagreatdoor", sum := "a3de01861843cb98a0cdd372d43a00bed5bebdca264b3c39d57e4bb383b3fd68", func := "arbac/arbaclaw21.WitnessErrors", spec := "witnessErrors", inPlace := ["internal/abi.NoEscape", "internal/bytealg.MakeNoZero"], unfollowed := true, recurses := true, named := ["math/bits.deBruijn64tab", "internal/strconv.uint64pow10", "math/bits.deBruijn32tab"], plainKeys := false, apart := false, laid := [("math/bits.deBruijn32tab", laid_math_bits_deBruijn32tab), ("math/bits.deBruijn64tab", laid_math_bits_deBruijn64tab), ("internal/strconv.uint64pow10", laid_internal_strconv_uint64pow10)], narrowed := true }
def WitnessErrorsUptoSaid : Prop := witnessErrorsUptoRow.holds Tryz.pinned (OpenSpec.upto witnessErrorsSpec)

/-- 'arbaclaw21.WitnessTexts', WHERE WHAT IT READS IS OF BULK AT MOST 1048576: true; the input reads as it did. -/
def witnessTextsUptoRow : OpenClaim := { program := "ytjpkfigmmmngnaagreatdoor", sum := "a3de01861843cb98a0cdd372d43a00bed5bebdca264b3c39d57e4bb383b3fd68", func := "arbac/arbaclaw21.WitnessTexts", spec := "witnessTexts", inPlace := ["internal/abi.NoEscape", "internal/bytealg.MakeNoZero", "maps.clone"], unfollowed := true, recurses := true, named := ["math/bits.deBruijn64tab", "internal/strconv.uint64pow10", "math/bits.deBruijn32tab"], plainKeys := false, apart := false, laid := [("math/bits.deBruijn32tab", laid_math_bits_deBruijn32tab), ("math/bits.deBruijn64tab", laid_math_bits_deBruijn64tab), ("internal/strconv.uint64pow10", laid_internal_strconv_uint64pow10)], narrowed := true }
def WitnessTextsUptoSaid : Prop := witnessTextsUptoRow.holds Tryz.pinned (OpenSpec.upto witnessTextsSpec)

end Rows
end Go.Proofs.YtjpkfigmmmngnaaGreatDoor
