/-
  NARROWER THAN 'FOR EVERY INPUT', by the rows' own cells (each row's printed sentence says how): FnStayValid: laid · FnTariffValid: laid · FnBookValid: laid · FnOverlap: laid · FnFeeSteps: laid · FnCoinsValid: laid · FnFeeOf: laid · FnBooksAt: laid · FnFeeLong: laid · FnBooksValid: laid · FnCoinSum: laid · FnCheapTariff: laid.
  DERIVED. THE GIVEN ROWS OF THIS SEAT. 12 by the template 'for every input the law returns true; each argument reads behind the call as it read before'; 0 by the template 'total and deterministic' (their statements: YtolnjpnaoeeanaaDoorTotals.lean).
  GIVEN WITH THE SEED: the statements are not yours to turn. If you find one false, say at which input.
  Laid BY PROGRAM, IN A SANDBOX (cutbox-rows.mjs): the forced cells as the released guide's own fill.sh prints them over the translation c200a3cb05743bc6… (all of the seat's roots in one cut). By AI agents, Wed Nov 11 2026. No macro, syntax, notation, axiom, sorry.
-/
import Derived.Test.YtolnjpnaoeeanaaDoorChecked
import GoSem.Claim
import GoSem.ClaimJoined
import GoSem.ClaimMapViews
import Derived.JoinedTies
import Derived.KernelRfl
namespace Go.Proofs.YtolnjpnaoeeanaaDoor
/- THE CELL 'sum', in the pinned program and in every row, IS THE sha256 OF THE DUMP (.gsa) THAT YtolnjpnaoeeanaaDoorProg.lean LOADS. Nothing in Lean hashes anything: it is a label: what it is worth is what the hold of that sum in a sandbox is worth. -/
noncomputable def Tryd.pinned : Pinned := { name := "ytolnjpnaoeeanaadoor", sum := "c200a3cb05743bc6672bc7760330a13014c5f96fbbcd04ef0050840251b316c7", checked := Tryd.checked }
namespace Rows
def none {H : Type} : Left H := { results := [], args := [] }

/- WHAT THE LISTED PACKAGE-LEVEL VARIABLES READ AS WHEN THE CALL BEGINS. Each datum BY PROGRAM (the guide's laid-datum.mjs) off the statement by which the dump's own 'gosem.cut.vars' lays the variable. In a bare row this is a premise. The card (YtolnjpnaoeeanaaDoorCards.lean) ties it to the program's text. -/
def laid_math_bits_deBruijn32tab {H : Type} : DataW H := .agg [.lit (.int .u8 0), .lit (.int .u8 1), .lit (.int .u8 28), .lit (.int .u8 2), .lit (.int .u8 29), .lit (.int .u8 14), .lit (.int .u8 24), .lit (.int .u8 3), .lit (.int .u8 30), .lit (.int .u8 22), .lit (.int .u8 20), .lit (.int .u8 15), .lit (.int .u8 25), .lit (.int .u8 17), .lit (.int .u8 4), .lit (.int .u8 8), .lit (.int .u8 31), .lit (.int .u8 27), .lit (.int .u8 13), .lit (.int .u8 23), .lit (.int .u8 21), .lit (.int .u8 19), .lit (.int .u8 16), .lit (.int .u8 7), .lit (.int .u8 26), .lit (.int .u8 12), .lit (.int .u8 18), .lit (.int .u8 6), .lit (.int .u8 11), .lit (.int .u8 5), .lit (.int .u8 10), .lit (.int .u8 9)]
def laid_math_bits_deBruijn64tab {H : Type} : DataW H := .agg [.lit (.int .u8 0), .lit (.int .u8 1), .lit (.int .u8 56), .lit (.int .u8 2), .lit (.int .u8 57), .lit (.int .u8 49), .lit (.int .u8 28), .lit (.int .u8 3), .lit (.int .u8 61), .lit (.int .u8 58), .lit (.int .u8 42), .lit (.int .u8 50), .lit (.int .u8 38), .lit (.int .u8 29), .lit (.int .u8 17), .lit (.int .u8 4), .lit (.int .u8 62), .lit (.int .u8 47), .lit (.int .u8 59), .lit (.int .u8 36), .lit (.int .u8 45), .lit (.int .u8 43), .lit (.int .u8 51), .lit (.int .u8 22), .lit (.int .u8 53), .lit (.int .u8 39), .lit (.int .u8 33), .lit (.int .u8 30), .lit (.int .u8 24), .lit (.int .u8 18), .lit (.int .u8 12), .lit (.int .u8 5), .lit (.int .u8 63), .lit (.int .u8 55), .lit (.int .u8 48), .lit (.int .u8 27), .lit (.int .u8 60), .lit (.int .u8 41), .lit (.int .u8 37), .lit (.int .u8 16), .lit (.int .u8 46), .lit (.int .u8 35), .lit (.int .u8 44), .lit (.int .u8 21), .lit (.int .u8 52), .lit (.int .u8 32), .lit (.int .u8 23), .lit (.int .u8 11), .lit (.int .u8 54), .lit (.int .u8 26), .lit (.int .u8 40), .lit (.int .u8 15), .lit (.int .u8 34), .lit (.int .u8 20), .lit (.int .u8 31), .lit (.int .u8 10), .lit (.int .u8 25), .lit (.int .u8 14), .lit (.int .u8 19), .lit (.int .u8 9), .lit (.int .u8 13), .lit (.int .u8 8), .lit (.int .u8 7), .lit (.int .u8 6)]
def laid_internal_strconv_uint64pow10 {H : Type} : DataW H := .agg [.lit (.int .u64 1), .lit (.int .u64 10), .lit (.int .u64 100), .lit (.int .u64 1000), .lit (.int .u64 10000), .lit (.int .u64 100000), .lit (.int .u64 1000000), .lit (.int .u64 10000000), .lit (.int .u64 100000000), .lit (.int .u64 1000000000), .lit (.int .u64 10000000000), .lit (.int .u64 100000000000), .lit (.int .u64 1000000000000), .lit (.int .u64 10000000000000), .lit (.int .u64 100000000000000), .lit (.int .u64 1000000000000000), .lit (.int .u64 10000000000000000), .lit (.int .u64 100000000000000000), .lit (.int .u64 1000000000000000000), .lit (.int .u64 10000000000000000000)]

/-- 'laws.FnStayValid': WHATEVER THE INPUT: true; the input reads as it did. -/
def fnStayValidSpec : ChangeSpec := { name := "fnStayValid", fn := fun _ => fun
  | [d] => { results := [.lit (.bool true)], args := [d] }
  | _ => none }
def fnStayValidRow : OpenClaim := { program := "ytolnjpnaoeeanaadoor", sum := "c200a3cb05743bc6672bc7760330a13014c5f96fbbcd04ef0050840251b316c7", func := "loop.example/parkinghouse/laws.FnStayValid", spec := "fnStayValid", inPlace := ["internal/abi.NoEscape"], named := ["internal/strconv.uint64pow10", "math/bits.deBruijn32tab", "math/bits.deBruijn64tab"], apart := false, laid := [("math/bits.deBruijn32tab", laid_math_bits_deBruijn32tab), ("math/bits.deBruijn64tab", laid_math_bits_deBruijn64tab), ("internal/strconv.uint64pow10", laid_internal_strconv_uint64pow10)] }
def FnStayValidSaid : Prop := fnStayValidRow.holds Tryd.pinned (OpenSpec.ofChange fnStayValidSpec)

/-- ITS FALSE NEIGHBOUR: 'it returns false'. Refute it at one input. -/
def fnStayValidWrong : ChangeSpec := { name := "fnStayValid", fn := fun _ => fun
  | [d] => { results := [.lit (.bool false)], args := [d] }
  | _ => none }
def FnStayValidWrongFalsely : Prop := fnStayValidRow.holds Tryd.pinned (OpenSpec.ofChange fnStayValidWrong)

/-- 'laws.FnTariffValid': WHATEVER THE INPUT: true; the input reads as it did. -/
def fnTariffValidSpec : ChangeSpec := { name := "fnTariffValid", fn := fun _ => fun
  | [d] => { results := [.lit (.bool true)], args := [d] }
  | _ => none }
def fnTariffValidRow : OpenClaim := { program := "ytolnjpnaoeeanaadoor", sum := "c200a3cb05743bc6672bc7760330a13014c5f96fbbcd04ef0050840251b316c7", func := "loop.example/parkinghouse/laws.FnTariffValid", spec := "fnTariffValid", inPlace := ["internal/abi.NoEscape"], named := ["internal/strconv.uint64pow10", "math/bits.deBruijn32tab", "math/bits.deBruijn64tab"], apart := false, laid := [("math/bits.deBruijn32tab", laid_math_bits_deBruijn32tab), ("math/bits.deBruijn64tab", laid_math_bits_deBruijn64tab), ("internal/strconv.uint64pow10", laid_internal_strconv_uint64pow10)] }
def FnTariffValidSaid : Prop := fnTariffValidRow.holds Tryd.pinned (OpenSpec.ofChange fnTariffValidSpec)

/-- ITS FALSE NEIGHBOUR: 'it returns false'. Refute it at one input. -/
def fnTariffValidWrong : ChangeSpec := { name := "fnTariffValid", fn := fun _ => fun
  | [d] => { results := [.lit (.bool false)], args := [d] }
  | _ => none }
def FnTariffValidWrongFalsely : Prop := fnTariffValidRow.holds Tryd.pinned (OpenSpec.ofChange fnTariffValidWrong)

/-- 'laws.FnBookValid': WHATEVER THE INPUT: true; the input reads as it did. -/
def fnBookValidSpec : ChangeSpec := { name := "fnBookValid", fn := fun _ => fun
  | [d] => { results := [.lit (.bool true)], args := [d] }
  | _ => none }
def fnBookValidRow : OpenClaim := { program := "ytolnjpnaoeeanaadoor", sum := "c200a3cb05743bc6672bc7760330a13014c5f96fbbcd04ef0050840251b316c7", func := "loop.example/parkinghouse/laws.FnBookValid", spec := "fnBookValid", inPlace := ["internal/abi.NoEscape"], named := ["internal/strconv.uint64pow10", "math/bits.deBruijn32tab", "math/bits.deBruijn64tab"], apart := false, laid := [("math/bits.deBruijn32tab", laid_math_bits_deBruijn32tab), ("math/bits.deBruijn64tab", laid_math_bits_deBruijn64tab), ("internal/strconv.uint64pow10", laid_internal_strconv_uint64pow10)] }
def FnBookValidSaid : Prop := fnBookValidRow.holds Tryd.pinned (OpenSpec.ofChange fnBookValidSpec)

/-- ITS FALSE NEIGHBOUR: 'it returns false'. Refute it at one input. -/
def fnBookValidWrong : ChangeSpec := { name := "fnBookValid", fn := fun _ => fun
  | [d] => { results := [.lit (.bool false)], args := [d] }
  | _ => none }
def FnBookValidWrongFalsely : Prop := fnBookValidRow.holds Tryd.pinned (OpenSpec.ofChange fnBookValidWrong)

/-- 'laws.FnOverlap': WHATEVER THE INPUT: true; the input reads as it did. -/
def fnOverlapSpec : ChangeSpec := { name := "fnOverlap", fn := fun _ => fun
  | [d] => { results := [.lit (.bool true)], args := [d] }
  | _ => none }
def fnOverlapRow : OpenClaim := { program := "ytolnjpnaoeeanaadoor", sum := "c200a3cb05743bc6672bc7760330a13014c5f96fbbcd04ef0050840251b316c7", func := "loop.example/parkinghouse/laws.FnOverlap", spec := "fnOverlap", inPlace := ["internal/abi.NoEscape"], named := ["internal/strconv.uint64pow10", "math/bits.deBruijn32tab", "math/bits.deBruijn64tab"], apart := false, laid := [("math/bits.deBruijn32tab", laid_math_bits_deBruijn32tab), ("math/bits.deBruijn64tab", laid_math_bits_deBruijn64tab), ("internal/strconv.uint64pow10", laid_internal_strconv_uint64pow10)] }
def FnOverlapSaid : Prop := fnOverlapRow.holds Tryd.pinned (OpenSpec.ofChange fnOverlapSpec)

/-- ITS FALSE NEIGHBOUR: 'it returns false'. Refute it at one input. -/
def fnOverlapWrong : ChangeSpec := { name := "fnOverlap", fn := fun _ => fun
  | [d] => { results := [.lit (.bool false)], args := [d] }
  | _ => none }
def FnOverlapWrongFalsely : Prop := fnOverlapRow.holds Tryd.pinned (OpenSpec.ofChange fnOverlapWrong)

/-- 'laws.FnFeeSteps': WHATEVER THE INPUT: true; the input reads as it did. -/
def fnFeeStepsSpec : ChangeSpec := { name := "fnFeeSteps", fn := fun _ => fun
  | [d] => { results := [.lit (.bool true)], args := [d] }
  | _ => none }
def fnFeeStepsRow : OpenClaim := { program := "ytolnjpnaoeeanaadoor", sum := "c200a3cb05743bc6672bc7760330a13014c5f96fbbcd04ef0050840251b316c7", func := "loop.example/parkinghouse/laws.FnFeeSteps", spec := "fnFeeSteps", inPlace := ["internal/abi.NoEscape"], named := ["internal/strconv.uint64pow10", "math/bits.deBruijn32tab", "math/bits.deBruijn64tab"], apart := false, laid := [("math/bits.deBruijn32tab", laid_math_bits_deBruijn32tab), ("math/bits.deBruijn64tab", laid_math_bits_deBruijn64tab), ("internal/strconv.uint64pow10", laid_internal_strconv_uint64pow10)] }
def FnFeeStepsSaid : Prop := fnFeeStepsRow.holds Tryd.pinned (OpenSpec.ofChange fnFeeStepsSpec)

/-- ITS FALSE NEIGHBOUR: 'it returns false'. Refute it at one input. -/
def fnFeeStepsWrong : ChangeSpec := { name := "fnFeeSteps", fn := fun _ => fun
  | [d] => { results := [.lit (.bool false)], args := [d] }
  | _ => none }
def FnFeeStepsWrongFalsely : Prop := fnFeeStepsRow.holds Tryd.pinned (OpenSpec.ofChange fnFeeStepsWrong)

/-- 'laws.FnCoinsValid': WHATEVER THE INPUT: true; the input reads as it did. -/
def fnCoinsValidSpec : ChangeSpec := { name := "fnCoinsValid", fn := fun _ => fun
  | [d] => { results := [.lit (.bool true)], args := [d] }
  | _ => none }
def fnCoinsValidRow : OpenClaim := { program := "ytolnjpnaoeeanaadoor", sum := "c200a3cb05743bc6672bc7760330a13014c5f96fbbcd04ef0050840251b316c7", func := "loop.example/parkinghouse/laws.FnCoinsValid", spec := "fnCoinsValid", inPlace := ["internal/abi.NoEscape"], named := ["internal/strconv.uint64pow10", "math/bits.deBruijn32tab", "math/bits.deBruijn64tab"], apart := false, laid := [("math/bits.deBruijn32tab", laid_math_bits_deBruijn32tab), ("math/bits.deBruijn64tab", laid_math_bits_deBruijn64tab), ("internal/strconv.uint64pow10", laid_internal_strconv_uint64pow10)] }
def FnCoinsValidSaid : Prop := fnCoinsValidRow.holds Tryd.pinned (OpenSpec.ofChange fnCoinsValidSpec)

/-- ITS FALSE NEIGHBOUR: 'it returns false'. Refute it at one input. -/
def fnCoinsValidWrong : ChangeSpec := { name := "fnCoinsValid", fn := fun _ => fun
  | [d] => { results := [.lit (.bool false)], args := [d] }
  | _ => none }
def FnCoinsValidWrongFalsely : Prop := fnCoinsValidRow.holds Tryd.pinned (OpenSpec.ofChange fnCoinsValidWrong)

/-- 'laws.FnFeeOf': WHATEVER THE INPUT: true; the input reads as it did. -/
def fnFeeOfSpec : ChangeSpec := { name := "fnFeeOf", fn := fun _ => fun
  | [d] => { results := [.lit (.bool true)], args := [d] }
  | _ => none }
def fnFeeOfRow : OpenClaim := { program := "ytolnjpnaoeeanaadoor", sum := "c200a3cb05743bc6672bc7760330a13014c5f96fbbcd04ef0050840251b316c7", func := "loop.example/parkinghouse/laws.FnFeeOf", spec := "fnFeeOf", inPlace := ["internal/abi.NoEscape"], named := ["internal/strconv.uint64pow10", "math/bits.deBruijn32tab", "math/bits.deBruijn64tab"], apart := false, laid := [("math/bits.deBruijn32tab", laid_math_bits_deBruijn32tab), ("math/bits.deBruijn64tab", laid_math_bits_deBruijn64tab), ("internal/strconv.uint64pow10", laid_internal_strconv_uint64pow10)] }
def FnFeeOfSaid : Prop := fnFeeOfRow.holds Tryd.pinned (OpenSpec.ofChange fnFeeOfSpec)

/-- ITS FALSE NEIGHBOUR: 'it returns false'. Refute it at one input. -/
def fnFeeOfWrong : ChangeSpec := { name := "fnFeeOf", fn := fun _ => fun
  | [d] => { results := [.lit (.bool false)], args := [d] }
  | _ => none }
def FnFeeOfWrongFalsely : Prop := fnFeeOfRow.holds Tryd.pinned (OpenSpec.ofChange fnFeeOfWrong)

/-- 'laws.FnBooksAt': WHATEVER THE INPUT: true; the input reads as it did. -/
def fnBooksAtSpec : ChangeSpec := { name := "fnBooksAt", fn := fun _ => fun
  | [d] => { results := [.lit (.bool true)], args := [d] }
  | _ => none }
def fnBooksAtRow : OpenClaim := { program := "ytolnjpnaoeeanaadoor", sum := "c200a3cb05743bc6672bc7760330a13014c5f96fbbcd04ef0050840251b316c7", func := "loop.example/parkinghouse/laws.FnBooksAt", spec := "fnBooksAt", inPlace := ["internal/abi.NoEscape"], named := ["internal/strconv.uint64pow10", "math/bits.deBruijn32tab", "math/bits.deBruijn64tab"], apart := false, laid := [("math/bits.deBruijn32tab", laid_math_bits_deBruijn32tab), ("math/bits.deBruijn64tab", laid_math_bits_deBruijn64tab), ("internal/strconv.uint64pow10", laid_internal_strconv_uint64pow10)] }
def FnBooksAtSaid : Prop := fnBooksAtRow.holds Tryd.pinned (OpenSpec.ofChange fnBooksAtSpec)

/-- ITS FALSE NEIGHBOUR: 'it returns false'. Refute it at one input. -/
def fnBooksAtWrong : ChangeSpec := { name := "fnBooksAt", fn := fun _ => fun
  | [d] => { results := [.lit (.bool false)], args := [d] }
  | _ => none }
def FnBooksAtWrongFalsely : Prop := fnBooksAtRow.holds Tryd.pinned (OpenSpec.ofChange fnBooksAtWrong)

/-- 'laws.FnFeeLong': WHATEVER THE INPUT: true; the input reads as it did. -/
def fnFeeLongSpec : ChangeSpec := { name := "fnFeeLong", fn := fun _ => fun
  | [d] => { results := [.lit (.bool true)], args := [d] }
  | _ => none }
def fnFeeLongRow : OpenClaim := { program := "ytolnjpnaoeeanaadoor", sum := "c200a3cb05743bc6672bc7760330a13014c5f96fbbcd04ef0050840251b316c7", func := "loop.example/parkinghouse/laws.FnFeeLong", spec := "fnFeeLong", inPlace := ["internal/abi.NoEscape"], named := ["internal/strconv.uint64pow10", "math/bits.deBruijn32tab", "math/bits.deBruijn64tab"], apart := false, laid := [("math/bits.deBruijn32tab", laid_math_bits_deBruijn32tab), ("math/bits.deBruijn64tab", laid_math_bits_deBruijn64tab), ("internal/strconv.uint64pow10", laid_internal_strconv_uint64pow10)] }
def FnFeeLongSaid : Prop := fnFeeLongRow.holds Tryd.pinned (OpenSpec.ofChange fnFeeLongSpec)

/-- ITS FALSE NEIGHBOUR: 'it returns false'. Refute it at one input. -/
def fnFeeLongWrong : ChangeSpec := { name := "fnFeeLong", fn := fun _ => fun
  | [d] => { results := [.lit (.bool false)], args := [d] }
  | _ => none }
def FnFeeLongWrongFalsely : Prop := fnFeeLongRow.holds Tryd.pinned (OpenSpec.ofChange fnFeeLongWrong)

/-- 'laws.FnBooksValid': WHATEVER THE INPUT: true; the input reads as it did. -/
def fnBooksValidSpec : ChangeSpec := { name := "fnBooksValid", fn := fun _ => fun
  | [d] => { results := [.lit (.bool true)], args := [d] }
  | _ => none }
def fnBooksValidRow : OpenClaim := { program := "ytolnjpnaoeeanaadoor", sum := "c200a3cb05743bc6672bc7760330a13014c5f96fbbcd04ef0050840251b316c7", func := "loop.example/parkinghouse/laws.FnBooksValid", spec := "fnBooksValid", inPlace := ["internal/abi.NoEscape"], unfollowed := true, recurses := true, named := ["internal/strconv.uint64pow10", "math/bits.deBruijn32tab", "math/bits.deBruijn64tab"], apart := false, laid := [("math/bits.deBruijn32tab", laid_math_bits_deBruijn32tab), ("math/bits.deBruijn64tab", laid_math_bits_deBruijn64tab), ("internal/strconv.uint64pow10", laid_internal_strconv_uint64pow10)] }
def FnBooksValidSaid : Prop := fnBooksValidRow.holds Tryd.pinned (OpenSpec.ofChange fnBooksValidSpec)

/-- ITS FALSE NEIGHBOUR: 'it returns false'. Refute it at one input. -/
def fnBooksValidWrong : ChangeSpec := { name := "fnBooksValid", fn := fun _ => fun
  | [d] => { results := [.lit (.bool false)], args := [d] }
  | _ => none }
def FnBooksValidWrongFalsely : Prop := fnBooksValidRow.holds Tryd.pinned (OpenSpec.ofChange fnBooksValidWrong)

/-- 'laws.FnCoinSum': WHATEVER THE INPUT: true; the input reads as it did. -/
def fnCoinSumSpec : ChangeSpec := { name := "fnCoinSum", fn := fun _ => fun
  | [d] => { results := [.lit (.bool true)], args := [d] }
  | _ => none }
def fnCoinSumRow : OpenClaim := { program := "ytolnjpnaoeeanaadoor", sum := "c200a3cb05743bc6672bc7760330a13014c5f96fbbcd04ef0050840251b316c7", func := "loop.example/parkinghouse/laws.FnCoinSum", spec := "fnCoinSum", inPlace := ["internal/abi.NoEscape"], named := ["internal/strconv.uint64pow10", "math/bits.deBruijn32tab", "math/bits.deBruijn64tab"], apart := false, laid := [("math/bits.deBruijn32tab", laid_math_bits_deBruijn32tab), ("math/bits.deBruijn64tab", laid_math_bits_deBruijn64tab), ("internal/strconv.uint64pow10", laid_internal_strconv_uint64pow10)] }
def FnCoinSumSaid : Prop := fnCoinSumRow.holds Tryd.pinned (OpenSpec.ofChange fnCoinSumSpec)

/-- ITS FALSE NEIGHBOUR: 'it returns false'. Refute it at one input. -/
def fnCoinSumWrong : ChangeSpec := { name := "fnCoinSum", fn := fun _ => fun
  | [d] => { results := [.lit (.bool false)], args := [d] }
  | _ => none }
def FnCoinSumWrongFalsely : Prop := fnCoinSumRow.holds Tryd.pinned (OpenSpec.ofChange fnCoinSumWrong)

/-- 'laws.FnCheapTariff': WHATEVER THE INPUT: true; the input reads as it did. -/
def fnCheapTariffSpec : ChangeSpec := { name := "fnCheapTariff", fn := fun _ => fun
  | [d] => { results := [.lit (.bool true)], args := [d] }
  | _ => none }
def fnCheapTariffRow : OpenClaim := { program := "ytolnjpnaoeeanaadoor", sum := "c200a3cb05743bc6672bc7760330a13014c5f96fbbcd04ef0050840251b316c7", func := "loop.example/parkinghouse/laws.FnCheapTariff", spec := "fnCheapTariff", inPlace := ["internal/abi.NoEscape"], named := ["internal/strconv.uint64pow10", "math/bits.deBruijn32tab", "math/bits.deBruijn64tab"], apart := false, laid := [("math/bits.deBruijn32tab", laid_math_bits_deBruijn32tab), ("math/bits.deBruijn64tab", laid_math_bits_deBruijn64tab), ("internal/strconv.uint64pow10", laid_internal_strconv_uint64pow10)] }
def FnCheapTariffSaid : Prop := fnCheapTariffRow.holds Tryd.pinned (OpenSpec.ofChange fnCheapTariffSpec)

/-- ITS FALSE NEIGHBOUR: 'it returns false'. Refute it at one input. -/
def fnCheapTariffWrong : ChangeSpec := { name := "fnCheapTariff", fn := fun _ => fun
  | [d] => { results := [.lit (.bool false)], args := [d] }
  | _ => none }
def FnCheapTariffWrongFalsely : Prop := fnCheapTariffRow.holds Tryd.pinned (OpenSpec.ofChange fnCheapTariffWrong)

/- THE SECOND FORM. 'bulk': how many values and letters a reading holds, each counted each time it is reached (what is shared counts as often as it is met; a slice's spare places count too). A statement '..UptoSaid' is the law's where the arguments, and the package variables that the reading takes, are together of bulk at most 1048576: NARROWER than '..Said'. Prove '..Said' where nothing that the law and all that it calls make is longer than what came in: it says more and counts as full. Else prove '..UptoSaid'. A law counts once. -/
mutual
def uptoBulk {H : Type} : DataW H → Nat
  | .lit (.string bytes) => bytes.length + 1
  | .lit _ => 1
  | .nil => 1
  | .ptr d => uptoBulk d + 1
  | .slice elems spare => uptoBulkAll elems + uptoBulkAll spare + 1
  | .agg parts => uptoBulkAll parts + 1
  | .iface _ d => uptoBulk d + 1
  | .map entries => uptoBulkEntries entries + 1
  | .held _ => 1
def uptoBulkAll {H : Type} : List (DataW H) → Nat
  | [] => 0
  | d :: r => uptoBulk d + uptoBulkAll r
def uptoBulkEntries {H : Type} : List (Lit × DataW H) → Nat
  | [] => 0
  | x :: r => uptoBulkEntry x + uptoBulkEntries r
def uptoBulkEntry {H : Type} : Lit × DataW H → Nat
  | (.string bytes, d) => bytes.length + uptoBulk d + 1
  | (_, d) => uptoBulk d + 1
 end
def uptoSmall : (H : Type) → List (DataW H) → Bool := fun _ ds => decide (uptoBulkAll ds ≤ 1048576)
def OpenSpec.upto (s : _root_.Go.ChangeSpec) : _root_.Go.OpenSpec := { _root_.Go.OpenSpec.ofChange s with cond := some uptoSmall }

/-- 'laws.FnStayValid', WHERE WHAT IT READS IS OF BULK AT MOST 1048576: true; the input reads as it did. -/
def fnStayValidUptoRow : OpenClaim := { program := "ytolnjpnaoeeanaadoor", sum := "c200a3cb05743bc6672bc7760330a13014c5f96fbbcd04ef0050840251b316c7", func := "loop.example/parkinghouse/laws.FnStayValid", spec := "fnStayValid", inPlace := ["internal/abi.NoEscape"], named := ["internal/strconv.uint64pow10", "math/bits.deBruijn32tab", "math/bits.deBruijn64tab"], apart := false, laid := [("math/bits.deBruijn32tab", laid_math_bits_deBruijn32tab), ("math/bits.deBruijn64tab", laid_math_bits_deBruijn64tab), ("internal/strconv.uint64pow10", laid_internal_strconv_uint64pow10)], narrowed := true }
def FnStayValidUptoSaid : Prop := fnStayValidUptoRow.holds Tryd.pinned (OpenSpec.upto fnStayValidSpec)

/-- 'laws.FnTariffValid', WHERE WHAT IT READS IS OF BULK AT MOST 1048576: true; the input reads as it did. -/
def fnTariffValidUptoRow : OpenClaim := { program := "ytolnjpnaoeeanaadoor", sum := "c200a3cb05743bc6672bc7760330a13014c5f96fbbcd04ef0050840251b316c7", func := "loop.example/parkinghouse/laws.FnTariffValid", spec := "fnTariffValid", inPlace := ["internal/abi.NoEscape"], named := ["internal/strconv.uint64pow10", "math/bits.deBruijn32tab", "math/bits.deBruijn64tab"], apart := false, laid := [("math/bits.deBruijn32tab", laid_math_bits_deBruijn32tab), ("math/bits.deBruijn64tab", laid_math_bits_deBruijn64tab), ("internal/strconv.uint64pow10", laid_internal_strconv_uint64pow10)], narrowed := true }
def FnTariffValidUptoSaid : Prop := fnTariffValidUptoRow.holds Tryd.pinned (OpenSpec.upto fnTariffValidSpec)

/-- 'laws.FnBookValid', WHERE WHAT IT READS IS OF BULK AT MOST 1048576: true; the input reads as it did. -/
def fnBookValidUptoRow : OpenClaim := { program := "ytolnjpnaoeeanaadoor", sum := "c200a3cb05743bc6672bc7760330a13014c5f96fbbcd04ef0050840251b316c7", func := "loop.example/parkinghouse/laws.FnBookValid", spec := "fnBookValid", inPlace := ["internal/abi.NoEscape"], named := ["internal/strconv.uint64pow10", "math/bits.deBruijn32tab", "math/bits.deBruijn64tab"], apart := false, laid := [("math/bits.deBruijn32tab", laid_math_bits_deBruijn32tab), ("math/bits.deBruijn64tab", laid_math_bits_deBruijn64tab), ("internal/strconv.uint64pow10", laid_internal_strconv_uint64pow10)], narrowed := true }
def FnBookValidUptoSaid : Prop := fnBookValidUptoRow.holds Tryd.pinned (OpenSpec.upto fnBookValidSpec)

/-- 'laws.FnOverlap', WHERE WHAT IT READS IS OF BULK AT MOST 1048576: true; the input reads as it did. -/
def fnOverlapUptoRow : OpenClaim := { program := "ytolnjpnaoeeanaadoor", sum := "c200a3cb05743bc6672bc7760330a13014c5f96fbbcd04ef0050840251b316c7", func := "loop.example/parkinghouse/laws.FnOverlap", spec := "fnOverlap", inPlace := ["internal/abi.NoEscape"], named := ["internal/strconv.uint64pow10", "math/bits.deBruijn32tab", "math/bits.deBruijn64tab"], apart := false, laid := [("math/bits.deBruijn32tab", laid_math_bits_deBruijn32tab), ("math/bits.deBruijn64tab", laid_math_bits_deBruijn64tab), ("internal/strconv.uint64pow10", laid_internal_strconv_uint64pow10)], narrowed := true }
def FnOverlapUptoSaid : Prop := fnOverlapUptoRow.holds Tryd.pinned (OpenSpec.upto fnOverlapSpec)

/-- 'laws.FnFeeSteps', WHERE WHAT IT READS IS OF BULK AT MOST 1048576: true; the input reads as it did. -/
def fnFeeStepsUptoRow : OpenClaim := { program := "ytolnjpnaoeeanaadoor", sum := "c200a3cb05743bc6672bc7760330a13014c5f96fbbcd04ef0050840251b316c7", func := "loop.example/parkinghouse/laws.FnFeeSteps", spec := "fnFeeSteps", inPlace := ["internal/abi.NoEscape"], named := ["internal/strconv.uint64pow10", "math/bits.deBruijn32tab", "math/bits.deBruijn64tab"], apart := false, laid := [("math/bits.deBruijn32tab", laid_math_bits_deBruijn32tab), ("math/bits.deBruijn64tab", laid_math_bits_deBruijn64tab), ("internal/strconv.uint64pow10", laid_internal_strconv_uint64pow10)], narrowed := true }
def FnFeeStepsUptoSaid : Prop := fnFeeStepsUptoRow.holds Tryd.pinned (OpenSpec.upto fnFeeStepsSpec)

/-- 'laws.FnCoinsValid', WHERE WHAT IT READS IS OF BULK AT MOST 1048576: true; the input reads as it did. -/
def fnCoinsValidUptoRow : OpenClaim := { program := "ytolnjpnaoeeanaadoor", sum := "c200a3cb05743bc6672bc7760330a13014c5f96fbbcd04ef0050840251b316c7", func := "loop.example/parkinghouse/laws.FnCoinsValid", spec := "fnCoinsValid", inPlace := ["internal/abi.NoEscape"], named := ["internal/strconv.uint64pow10", "math/bits.deBruijn32tab", "math/bits.deBruijn64tab"], apart := false, laid := [("math/bits.deBruijn32tab", laid_math_bits_deBruijn32tab), ("math/bits.deBruijn64tab", laid_math_bits_deBruijn64tab), ("internal/strconv.uint64pow10", laid_internal_strconv_uint64pow10)], narrowed := true }
def FnCoinsValidUptoSaid : Prop := fnCoinsValidUptoRow.holds Tryd.pinned (OpenSpec.upto fnCoinsValidSpec)

/-- 'laws.FnFeeOf', WHERE WHAT IT READS IS OF BULK AT MOST 1048576: true; the input reads as it did. -/
def fnFeeOfUptoRow : OpenClaim := { program := "ytolnjpnaoeeanaadoor", sum := "c200a3cb05743bc6672bc7760330a13014c5f96fbbcd04ef0050840251b316c7", func := "loop.example/parkinghouse/laws.FnFeeOf", spec := "fnFeeOf", inPlace := ["internal/abi.NoEscape"], named := ["internal/strconv.uint64pow10", "math/bits.deBruijn32tab", "math/bits.deBruijn64tab"], apart := false, laid := [("math/bits.deBruijn32tab", laid_math_bits_deBruijn32tab), ("math/bits.deBruijn64tab", laid_math_bits_deBruijn64tab), ("internal/strconv.uint64pow10", laid_internal_strconv_uint64pow10)], narrowed := true }
def FnFeeOfUptoSaid : Prop := fnFeeOfUptoRow.holds Tryd.pinned (OpenSpec.upto fnFeeOfSpec)

/-- 'laws.FnBooksAt', WHERE WHAT IT READS IS OF BULK AT MOST 1048576: true; the input reads as it did. -/
def fnBooksAtUptoRow : OpenClaim := { program := "ytolnjpnaoeeanaadoor", sum := "c200a3cb05743bc6672bc7760330a13014c5f96fbbcd04ef0050840251b316c7", func := "loop.example/parkinghouse/laws.FnBooksAt", spec := "fnBooksAt", inPlace := ["internal/abi.NoEscape"], named := ["internal/strconv.uint64pow10", "math/bits.deBruijn32tab", "math/bits.deBruijn64tab"], apart := false, laid := [("math/bits.deBruijn32tab", laid_math_bits_deBruijn32tab), ("math/bits.deBruijn64tab", laid_math_bits_deBruijn64tab), ("internal/strconv.uint64pow10", laid_internal_strconv_uint64pow10)], narrowed := true }
def FnBooksAtUptoSaid : Prop := fnBooksAtUptoRow.holds Tryd.pinned (OpenSpec.upto fnBooksAtSpec)

/-- 'laws.FnFeeLong', WHERE WHAT IT READS IS OF BULK AT MOST 1048576: true; the input reads as it did. -/
def fnFeeLongUptoRow : OpenClaim := { program := "ytolnjpnaoeeanaadoor", sum := "c200a3cb05743bc6672bc7760330a13014c5f96fbbcd04ef0050840251b316c7", func := "loop.example/parkinghouse/laws.FnFeeLong", spec := "fnFeeLong", inPlace := ["internal/abi.NoEscape"], named := ["internal/strconv.uint64pow10", "math/bits.deBruijn32tab", "math/bits.deBruijn64tab"], apart := false, laid := [("math/bits.deBruijn32tab", laid_math_bits_deBruijn32tab), ("math/bits.deBruijn64tab", laid_math_bits_deBruijn64tab), ("internal/strconv.uint64pow10", laid_internal_strconv_uint64pow10)], narrowed := true }
def FnFeeLongUptoSaid : Prop := fnFeeLongUptoRow.holds Tryd.pinned (OpenSpec.upto fnFeeLongSpec)

/-- 'laws.FnBooksValid', WHERE WHAT IT READS IS OF BULK AT MOST 1048576: true; the input reads as it did. -/
def fnBooksValidUptoRow : OpenClaim := { program := "ytolnjpnaoeeanaadoor", sum := "c200a3cb05743bc6672bc7760330a13014c5f96fbbcd04ef0050840251b316c7", func := "loop.example/parkinghouse/laws.FnBooksValid", spec := "fnBooksValid", inPlace := ["internal/abi.NoEscape"], unfollowed := true, recurses := true, named := ["internal/strconv.uint64pow10", "math/bits.deBruijn32tab", "math/bits.deBruijn64tab"], apart := false, laid := [("math/bits.deBruijn32tab", laid_math_bits_deBruijn32tab), ("math/bits.deBruijn64tab", laid_math_bits_deBruijn64tab), ("internal/strconv.uint64pow10", laid_internal_strconv_uint64pow10)], narrowed := true }
def FnBooksValidUptoSaid : Prop := fnBooksValidUptoRow.holds Tryd.pinned (OpenSpec.upto fnBooksValidSpec)

/-- 'laws.FnCoinSum', WHERE WHAT IT READS IS OF BULK AT MOST 1048576: true; the input reads as it did. -/
def fnCoinSumUptoRow : OpenClaim := { program := "ytolnjpnaoeeanaadoor", sum := "c200a3cb05743bc6672bc7760330a13014c5f96fbbcd04ef0050840251b316c7", func := "loop.example/parkinghouse/laws.FnCoinSum", spec := "fnCoinSum", inPlace := ["internal/abi.NoEscape"], named := ["internal/strconv.uint64pow10", "math/bits.deBruijn32tab", "math/bits.deBruijn64tab"], apart := false, laid := [("math/bits.deBruijn32tab", laid_math_bits_deBruijn32tab), ("math/bits.deBruijn64tab", laid_math_bits_deBruijn64tab), ("internal/strconv.uint64pow10", laid_internal_strconv_uint64pow10)], narrowed := true }
def FnCoinSumUptoSaid : Prop := fnCoinSumUptoRow.holds Tryd.pinned (OpenSpec.upto fnCoinSumSpec)

/-- 'laws.FnCheapTariff', WHERE WHAT IT READS IS OF BULK AT MOST 1048576: true; the input reads as it did. -/
def fnCheapTariffUptoRow : OpenClaim := { program := "ytolnjpnaoeeanaadoor", sum := "c200a3cb05743bc6672bc7760330a13014c5f96fbbcd04ef0050840251b316c7", func := "loop.example/parkinghouse/laws.FnCheapTariff", spec := "fnCheapTariff", inPlace := ["internal/abi.NoEscape"], named := ["internal/strconv.uint64pow10", "math/bits.deBruijn32tab", "math/bits.deBruijn64tab"], apart := false, laid := [("math/bits.deBruijn32tab", laid_math_bits_deBruijn32tab), ("math/bits.deBruijn64tab", laid_math_bits_deBruijn64tab), ("internal/strconv.uint64pow10", laid_internal_strconv_uint64pow10)], narrowed := true }
def FnCheapTariffUptoSaid : Prop := fnCheapTariffUptoRow.holds Tryd.pinned (OpenSpec.upto fnCheapTariffSpec)

end Rows
end Go.Proofs.YtolnjpnaoeeanaaDoor
