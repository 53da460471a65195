/-
  NARROWER THAN 'FOR EVERY INPUT', by the rows' own cells (each row's printed sentence says how): FnBooksValid: laid · FnCoinsValid: laid · FnCoinSum: laid · FnCheapTariff: laid · FnBooksMost: laid · FnCoinsLeast: laid · FnCoinsGreedy: laid · FnGreedySafe: laid · FnCoinsFor: laid · FnChangeFrom: laid · FnBooksValue: laid · FnBooksPick: laid.
  DERIVED. THE GIVEN ROWS OF THIS SEAT. 12 by the template 'for every input the law returns true; each argument reads behind the call as it read before'; 0 by the template 'total and deterministic' (their statements: YtjijaejlcbailaaDoorTotals.lean).
  GIVEN WITH THE SEED: the statements are not yours to turn. If you find one false, say at which input.
  Laid BY PROGRAM, IN A SANDBOX (cutbox-rows.mjs): the forced cells as the released guide's own fill.sh prints them over the translation b4132480f9efabeb… (all of the seat's roots in one cut). By AI agents, Wed Nov 11 2026. No macro, syntax, notation, axiom, sorry.
-/
import Derived.Test.YtjijaejlcbailaaDoorChecked
import GoSem.Claim
import GoSem.ClaimJoined
import GoSem.ClaimMapViews
import Derived.JoinedTies
import Derived.KernelRfl
namespace Go.Proofs.YtjijaejlcbailaaDoor
/- THE CELL 'sum', in the pinned program and in every row, IS THE sha256 OF THE DUMP (.gsa) THAT YtjijaejlcbailaaDoorProg.lean LOADS. Nothing in Lean hashes anything: it is a label: what it is worth is what the hold of that sum in a sandbox is worth. -/
noncomputable def Tryd.pinned : Pinned := { name := "ytjijaejlcbailaadoor", sum := "b4132480f9efabeb1b81d3306c86f8ee6043b5e0f35f6ab55be9c50bcfdfc127", checked := Tryd.checked }
namespace Rows
def none {H : Type} : Left H := { results := [], args := [] }

/- WHAT THE LISTED PACKAGE-LEVEL VARIABLES READ AS WHEN THE CALL BEGINS. Each datum BY PROGRAM (the guide's laid-datum.mjs) off the statement by which the dump's own 'gosem.cut.vars' lays the variable. In a bare row this is a premise. The card (YtjijaejlcbailaaDoorCards.lean) ties it to the program's text. -/
def laid_math_bits_deBruijn32tab {H : Type} : DataW H := .agg [.lit (.int .u8 0), .lit (.int .u8 1), .lit (.int .u8 28), .lit (.int .u8 2), .lit (.int .u8 29), .lit (.int .u8 14), .lit (.int .u8 24), .lit (.int .u8 3), .lit (.int .u8 30), .lit (.int .u8 22), .lit (.int .u8 20), .lit (.int .u8 15), .lit (.int .u8 25), .lit (.int .u8 17), .lit (.int .u8 4), .lit (.int .u8 8), .lit (.int .u8 31), .lit (.int .u8 27), .lit (.int .u8 13), .lit (.int .u8 23), .lit (.int .u8 21), .lit (.int .u8 19), .lit (.int .u8 16), .lit (.int .u8 7), .lit (.int .u8 26), .lit (.int .u8 12), .lit (.int .u8 18), .lit (.int .u8 6), .lit (.int .u8 11), .lit (.int .u8 5), .lit (.int .u8 10), .lit (.int .u8 9)]
def laid_math_bits_deBruijn64tab {H : Type} : DataW H := .agg [.lit (.int .u8 0), .lit (.int .u8 1), .lit (.int .u8 56), .lit (.int .u8 2), .lit (.int .u8 57), .lit (.int .u8 49), .lit (.int .u8 28), .lit (.int .u8 3), .lit (.int .u8 61), .lit (.int .u8 58), .lit (.int .u8 42), .lit (.int .u8 50), .lit (.int .u8 38), .lit (.int .u8 29), .lit (.int .u8 17), .lit (.int .u8 4), .lit (.int .u8 62), .lit (.int .u8 47), .lit (.int .u8 59), .lit (.int .u8 36), .lit (.int .u8 45), .lit (.int .u8 43), .lit (.int .u8 51), .lit (.int .u8 22), .lit (.int .u8 53), .lit (.int .u8 39), .lit (.int .u8 33), .lit (.int .u8 30), .lit (.int .u8 24), .lit (.int .u8 18), .lit (.int .u8 12), .lit (.int .u8 5), .lit (.int .u8 63), .lit (.int .u8 55), .lit (.int .u8 48), .lit (.int .u8 27), .lit (.int .u8 60), .lit (.int .u8 41), .lit (.int .u8 37), .lit (.int .u8 16), .lit (.int .u8 46), .lit (.int .u8 35), .lit (.int .u8 44), .lit (.int .u8 21), .lit (.int .u8 52), .lit (.int .u8 32), .lit (.int .u8 23), .lit (.int .u8 11), .lit (.int .u8 54), .lit (.int .u8 26), .lit (.int .u8 40), .lit (.int .u8 15), .lit (.int .u8 34), .lit (.int .u8 20), .lit (.int .u8 31), .lit (.int .u8 10), .lit (.int .u8 25), .lit (.int .u8 14), .lit (.int .u8 19), .lit (.int .u8 9), .lit (.int .u8 13), .lit (.int .u8 8), .lit (.int .u8 7), .lit (.int .u8 6)]
def laid_internal_strconv_uint64pow10 {H : Type} : DataW H := .agg [.lit (.int .u64 1), .lit (.int .u64 10), .lit (.int .u64 100), .lit (.int .u64 1000), .lit (.int .u64 10000), .lit (.int .u64 100000), .lit (.int .u64 1000000), .lit (.int .u64 10000000), .lit (.int .u64 100000000), .lit (.int .u64 1000000000), .lit (.int .u64 10000000000), .lit (.int .u64 100000000000), .lit (.int .u64 1000000000000), .lit (.int .u64 10000000000000), .lit (.int .u64 100000000000000), .lit (.int .u64 1000000000000000), .lit (.int .u64 10000000000000000), .lit (.int .u64 100000000000000000), .lit (.int .u64 1000000000000000000), .lit (.int .u64 10000000000000000000)]

/-- 'laws.FnBooksValid': WHATEVER THE INPUT: true; the input reads as it did. -/
def fnBooksValidSpec : ChangeSpec := { name := "fnBooksValid", fn := fun _ => fun
  | [d] => { results := [.lit (.bool true)], args := [d] }
  | _ => none }
def fnBooksValidRow : OpenClaim := { program := "ytjijaejlcbailaadoor", sum := "b4132480f9efabeb1b81d3306c86f8ee6043b5e0f35f6ab55be9c50bcfdfc127", func := "loop.example/parkinghouse/laws.FnBooksValid", spec := "fnBooksValid", inPlace := ["internal/abi.NoEscape"], unfollowed := true, recurses := true, named := ["internal/strconv.uint64pow10", "math/bits.deBruijn32tab", "math/bits.deBruijn64tab"], apart := false, laid := [("math/bits.deBruijn32tab", laid_math_bits_deBruijn32tab), ("math/bits.deBruijn64tab", laid_math_bits_deBruijn64tab), ("internal/strconv.uint64pow10", laid_internal_strconv_uint64pow10)] }
def FnBooksValidSaid : Prop := fnBooksValidRow.holds Tryd.pinned (OpenSpec.ofChange fnBooksValidSpec)

/-- ITS FALSE NEIGHBOUR: 'it returns false'. Refute it at one input. -/
def fnBooksValidWrong : ChangeSpec := { name := "fnBooksValid", fn := fun _ => fun
  | [d] => { results := [.lit (.bool false)], args := [d] }
  | _ => none }
def FnBooksValidWrongFalsely : Prop := fnBooksValidRow.holds Tryd.pinned (OpenSpec.ofChange fnBooksValidWrong)

/-- 'laws.FnCoinsValid': WHATEVER THE INPUT: true; the input reads as it did. -/
def fnCoinsValidSpec : ChangeSpec := { name := "fnCoinsValid", fn := fun _ => fun
  | [d] => { results := [.lit (.bool true)], args := [d] }
  | _ => none }
def fnCoinsValidRow : OpenClaim := { program := "ytjijaejlcbailaadoor", sum := "b4132480f9efabeb1b81d3306c86f8ee6043b5e0f35f6ab55be9c50bcfdfc127", func := "loop.example/parkinghouse/laws.FnCoinsValid", spec := "fnCoinsValid", inPlace := ["internal/abi.NoEscape"], named := ["internal/strconv.uint64pow10", "math/bits.deBruijn32tab", "math/bits.deBruijn64tab"], apart := false, laid := [("math/bits.deBruijn32tab", laid_math_bits_deBruijn32tab), ("math/bits.deBruijn64tab", laid_math_bits_deBruijn64tab), ("internal/strconv.uint64pow10", laid_internal_strconv_uint64pow10)] }
def FnCoinsValidSaid : Prop := fnCoinsValidRow.holds Tryd.pinned (OpenSpec.ofChange fnCoinsValidSpec)

/-- ITS FALSE NEIGHBOUR: 'it returns false'. Refute it at one input. -/
def fnCoinsValidWrong : ChangeSpec := { name := "fnCoinsValid", fn := fun _ => fun
  | [d] => { results := [.lit (.bool false)], args := [d] }
  | _ => none }
def FnCoinsValidWrongFalsely : Prop := fnCoinsValidRow.holds Tryd.pinned (OpenSpec.ofChange fnCoinsValidWrong)

/-- 'laws.FnCoinSum': WHATEVER THE INPUT: true; the input reads as it did. -/
def fnCoinSumSpec : ChangeSpec := { name := "fnCoinSum", fn := fun _ => fun
  | [d] => { results := [.lit (.bool true)], args := [d] }
  | _ => none }
def fnCoinSumRow : OpenClaim := { program := "ytjijaejlcbailaadoor", sum := "b4132480f9efabeb1b81d3306c86f8ee6043b5e0f35f6ab55be9c50bcfdfc127", func := "loop.example/parkinghouse/laws.FnCoinSum", spec := "fnCoinSum", inPlace := ["internal/abi.NoEscape"], named := ["internal/strconv.uint64pow10", "math/bits.deBruijn32tab", "math/bits.deBruijn64tab"], apart := false, laid := [("math/bits.deBruijn32tab", laid_math_bits_deBruijn32tab), ("math/bits.deBruijn64tab", laid_math_bits_deBruijn64tab), ("internal/strconv.uint64pow10", laid_internal_strconv_uint64pow10)] }
def FnCoinSumSaid : Prop := fnCoinSumRow.holds Tryd.pinned (OpenSpec.ofChange fnCoinSumSpec)

/-- ITS FALSE NEIGHBOUR: 'it returns false'. Refute it at one input. -/
def fnCoinSumWrong : ChangeSpec := { name := "fnCoinSum", fn := fun _ => fun
  | [d] => { results := [.lit (.bool false)], args := [d] }
  | _ => none }
def FnCoinSumWrongFalsely : Prop := fnCoinSumRow.holds Tryd.pinned (OpenSpec.ofChange fnCoinSumWrong)

/-- 'laws.FnCheapTariff': WHATEVER THE INPUT: true; the input reads as it did. -/
def fnCheapTariffSpec : ChangeSpec := { name := "fnCheapTariff", fn := fun _ => fun
  | [d] => { results := [.lit (.bool true)], args := [d] }
  | _ => none }
def fnCheapTariffRow : OpenClaim := { program := "ytjijaejlcbailaadoor", sum := "b4132480f9efabeb1b81d3306c86f8ee6043b5e0f35f6ab55be9c50bcfdfc127", func := "loop.example/parkinghouse/laws.FnCheapTariff", spec := "fnCheapTariff", inPlace := ["internal/abi.NoEscape"], named := ["internal/strconv.uint64pow10", "math/bits.deBruijn32tab", "math/bits.deBruijn64tab"], apart := false, laid := [("math/bits.deBruijn32tab", laid_math_bits_deBruijn32tab), ("math/bits.deBruijn64tab", laid_math_bits_deBruijn64tab), ("internal/strconv.uint64pow10", laid_internal_strconv_uint64pow10)] }
def FnCheapTariffSaid : Prop := fnCheapTariffRow.holds Tryd.pinned (OpenSpec.ofChange fnCheapTariffSpec)

/-- ITS FALSE NEIGHBOUR: 'it returns false'. Refute it at one input. -/
def fnCheapTariffWrong : ChangeSpec := { name := "fnCheapTariff", fn := fun _ => fun
  | [d] => { results := [.lit (.bool false)], args := [d] }
  | _ => none }
def FnCheapTariffWrongFalsely : Prop := fnCheapTariffRow.holds Tryd.pinned (OpenSpec.ofChange fnCheapTariffWrong)

/-- 'laws.FnBooksMost': WHATEVER THE INPUT: true; the input reads as it did. -/
def fnBooksMostSpec : ChangeSpec := { name := "fnBooksMost", fn := fun _ => fun
  | [d] => { results := [.lit (.bool true)], args := [d] }
  | _ => none }
def fnBooksMostRow : OpenClaim := { program := "ytjijaejlcbailaadoor", sum := "b4132480f9efabeb1b81d3306c86f8ee6043b5e0f35f6ab55be9c50bcfdfc127", func := "loop.example/parkinghouse/laws.FnBooksMost", spec := "fnBooksMost", inPlace := ["internal/abi.NoEscape"], unfollowed := true, recurses := true, named := ["internal/strconv.uint64pow10", "math/bits.deBruijn32tab", "math/bits.deBruijn64tab"], apart := false, laid := [("math/bits.deBruijn32tab", laid_math_bits_deBruijn32tab), ("math/bits.deBruijn64tab", laid_math_bits_deBruijn64tab), ("internal/strconv.uint64pow10", laid_internal_strconv_uint64pow10)] }
def FnBooksMostSaid : Prop := fnBooksMostRow.holds Tryd.pinned (OpenSpec.ofChange fnBooksMostSpec)

/-- ITS FALSE NEIGHBOUR: 'it returns false'. Refute it at one input. -/
def fnBooksMostWrong : ChangeSpec := { name := "fnBooksMost", fn := fun _ => fun
  | [d] => { results := [.lit (.bool false)], args := [d] }
  | _ => none }
def FnBooksMostWrongFalsely : Prop := fnBooksMostRow.holds Tryd.pinned (OpenSpec.ofChange fnBooksMostWrong)

/-- 'laws.FnCoinsLeast': WHATEVER THE INPUT: true; the input reads as it did. -/
def fnCoinsLeastSpec : ChangeSpec := { name := "fnCoinsLeast", fn := fun _ => fun
  | [d1, d2] => { results := [.lit (.bool true)], args := [d1, d2] }
  | _ => none }
def fnCoinsLeastRow : OpenClaim := { program := "ytjijaejlcbailaadoor", sum := "b4132480f9efabeb1b81d3306c86f8ee6043b5e0f35f6ab55be9c50bcfdfc127", func := "loop.example/parkinghouse/laws.FnCoinsLeast", spec := "fnCoinsLeast", inPlace := ["internal/abi.NoEscape"], named := ["internal/strconv.uint64pow10", "math/bits.deBruijn32tab", "math/bits.deBruijn64tab"], apart := false, laid := [("math/bits.deBruijn32tab", laid_math_bits_deBruijn32tab), ("math/bits.deBruijn64tab", laid_math_bits_deBruijn64tab), ("internal/strconv.uint64pow10", laid_internal_strconv_uint64pow10)] }
def FnCoinsLeastSaid : Prop := fnCoinsLeastRow.holds Tryd.pinned (OpenSpec.ofChange fnCoinsLeastSpec)

/-- ITS FALSE NEIGHBOUR: 'it returns false'. Refute it at one input. -/
def fnCoinsLeastWrong : ChangeSpec := { name := "fnCoinsLeast", fn := fun _ => fun
  | [d1, d2] => { results := [.lit (.bool false)], args := [d1, d2] }
  | _ => none }
def FnCoinsLeastWrongFalsely : Prop := fnCoinsLeastRow.holds Tryd.pinned (OpenSpec.ofChange fnCoinsLeastWrong)

/-- 'laws.FnCoinsGreedy': WHATEVER THE INPUT: true; the input reads as it did. -/
def fnCoinsGreedySpec : ChangeSpec := { name := "fnCoinsGreedy", fn := fun _ => fun
  | [d] => { results := [.lit (.bool true)], args := [d] }
  | _ => none }
def fnCoinsGreedyRow : OpenClaim := { program := "ytjijaejlcbailaadoor", sum := "b4132480f9efabeb1b81d3306c86f8ee6043b5e0f35f6ab55be9c50bcfdfc127", func := "loop.example/parkinghouse/laws.FnCoinsGreedy", spec := "fnCoinsGreedy", inPlace := ["internal/abi.NoEscape"], named := ["internal/strconv.uint64pow10", "math/bits.deBruijn32tab", "math/bits.deBruijn64tab"], apart := false, laid := [("math/bits.deBruijn32tab", laid_math_bits_deBruijn32tab), ("math/bits.deBruijn64tab", laid_math_bits_deBruijn64tab), ("internal/strconv.uint64pow10", laid_internal_strconv_uint64pow10)] }
def FnCoinsGreedySaid : Prop := fnCoinsGreedyRow.holds Tryd.pinned (OpenSpec.ofChange fnCoinsGreedySpec)

/-- ITS FALSE NEIGHBOUR: 'it returns false'. Refute it at one input. -/
def fnCoinsGreedyWrong : ChangeSpec := { name := "fnCoinsGreedy", fn := fun _ => fun
  | [d] => { results := [.lit (.bool false)], args := [d] }
  | _ => none }
def FnCoinsGreedyWrongFalsely : Prop := fnCoinsGreedyRow.holds Tryd.pinned (OpenSpec.ofChange fnCoinsGreedyWrong)

/-- 'laws.FnGreedySafe': WHATEVER THE INPUT: true; the input reads as it did. -/
def fnGreedySafeSpec : ChangeSpec := { name := "fnGreedySafe", fn := fun _ => fun
  | [d] => { results := [.lit (.bool true)], args := [d] }
  | _ => none }
def fnGreedySafeRow : OpenClaim := { program := "ytjijaejlcbailaadoor", sum := "b4132480f9efabeb1b81d3306c86f8ee6043b5e0f35f6ab55be9c50bcfdfc127", func := "loop.example/parkinghouse/laws.FnGreedySafe", spec := "fnGreedySafe", inPlace := ["internal/abi.NoEscape"], named := ["internal/strconv.uint64pow10", "math/bits.deBruijn32tab", "math/bits.deBruijn64tab"], apart := false, laid := [("math/bits.deBruijn32tab", laid_math_bits_deBruijn32tab), ("math/bits.deBruijn64tab", laid_math_bits_deBruijn64tab), ("internal/strconv.uint64pow10", laid_internal_strconv_uint64pow10)] }
def FnGreedySafeSaid : Prop := fnGreedySafeRow.holds Tryd.pinned (OpenSpec.ofChange fnGreedySafeSpec)

/-- ITS FALSE NEIGHBOUR: 'it returns false'. Refute it at one input. -/
def fnGreedySafeWrong : ChangeSpec := { name := "fnGreedySafe", fn := fun _ => fun
  | [d] => { results := [.lit (.bool false)], args := [d] }
  | _ => none }
def FnGreedySafeWrongFalsely : Prop := fnGreedySafeRow.holds Tryd.pinned (OpenSpec.ofChange fnGreedySafeWrong)

/-- 'laws.FnCoinsFor': WHATEVER THE INPUT: true; the input reads as it did. -/
def fnCoinsForSpec : ChangeSpec := { name := "fnCoinsFor", fn := fun _ => fun
  | [d] => { results := [.lit (.bool true)], args := [d] }
  | _ => none }
def fnCoinsForRow : OpenClaim := { program := "ytjijaejlcbailaadoor", sum := "b4132480f9efabeb1b81d3306c86f8ee6043b5e0f35f6ab55be9c50bcfdfc127", func := "loop.example/parkinghouse/laws.FnCoinsFor", spec := "fnCoinsFor", inPlace := ["internal/abi.NoEscape"], named := ["internal/strconv.uint64pow10", "math/bits.deBruijn32tab", "math/bits.deBruijn64tab"], apart := false, laid := [("math/bits.deBruijn32tab", laid_math_bits_deBruijn32tab), ("math/bits.deBruijn64tab", laid_math_bits_deBruijn64tab), ("internal/strconv.uint64pow10", laid_internal_strconv_uint64pow10)] }
def FnCoinsForSaid : Prop := fnCoinsForRow.holds Tryd.pinned (OpenSpec.ofChange fnCoinsForSpec)

/-- ITS FALSE NEIGHBOUR: 'it returns false'. Refute it at one input. -/
def fnCoinsForWrong : ChangeSpec := { name := "fnCoinsFor", fn := fun _ => fun
  | [d] => { results := [.lit (.bool false)], args := [d] }
  | _ => none }
def FnCoinsForWrongFalsely : Prop := fnCoinsForRow.holds Tryd.pinned (OpenSpec.ofChange fnCoinsForWrong)

/-- 'laws.FnChangeFrom': WHATEVER THE INPUT: true; the input reads as it did. -/
def fnChangeFromSpec : ChangeSpec := { name := "fnChangeFrom", fn := fun _ => fun
  | [d] => { results := [.lit (.bool true)], args := [d] }
  | _ => none }
def fnChangeFromRow : OpenClaim := { program := "ytjijaejlcbailaadoor", sum := "b4132480f9efabeb1b81d3306c86f8ee6043b5e0f35f6ab55be9c50bcfdfc127", func := "loop.example/parkinghouse/laws.FnChangeFrom", spec := "fnChangeFrom", inPlace := ["internal/abi.NoEscape"], recurses := true, named := ["internal/strconv.uint64pow10", "math/bits.deBruijn32tab", "math/bits.deBruijn64tab"], apart := false, laid := [("math/bits.deBruijn32tab", laid_math_bits_deBruijn32tab), ("math/bits.deBruijn64tab", laid_math_bits_deBruijn64tab), ("internal/strconv.uint64pow10", laid_internal_strconv_uint64pow10)] }
def FnChangeFromSaid : Prop := fnChangeFromRow.holds Tryd.pinned (OpenSpec.ofChange fnChangeFromSpec)

/-- ITS FALSE NEIGHBOUR: 'it returns false'. Refute it at one input. -/
def fnChangeFromWrong : ChangeSpec := { name := "fnChangeFrom", fn := fun _ => fun
  | [d] => { results := [.lit (.bool false)], args := [d] }
  | _ => none }
def FnChangeFromWrongFalsely : Prop := fnChangeFromRow.holds Tryd.pinned (OpenSpec.ofChange fnChangeFromWrong)

/-- 'laws.FnBooksValue': WHATEVER THE INPUT: true; the input reads as it did. -/
def fnBooksValueSpec : ChangeSpec := { name := "fnBooksValue", fn := fun _ => fun
  | [d] => { results := [.lit (.bool true)], args := [d] }
  | _ => none }
def fnBooksValueRow : OpenClaim := { program := "ytjijaejlcbailaadoor", sum := "b4132480f9efabeb1b81d3306c86f8ee6043b5e0f35f6ab55be9c50bcfdfc127", func := "loop.example/parkinghouse/laws.FnBooksValue", spec := "fnBooksValue", inPlace := ["internal/abi.NoEscape"], unfollowed := true, recurses := true, named := ["internal/strconv.uint64pow10", "math/bits.deBruijn32tab", "math/bits.deBruijn64tab"], apart := false, laid := [("math/bits.deBruijn32tab", laid_math_bits_deBruijn32tab), ("math/bits.deBruijn64tab", laid_math_bits_deBruijn64tab), ("internal/strconv.uint64pow10", laid_internal_strconv_uint64pow10)] }
def FnBooksValueSaid : Prop := fnBooksValueRow.holds Tryd.pinned (OpenSpec.ofChange fnBooksValueSpec)

/-- ITS FALSE NEIGHBOUR: 'it returns false'. Refute it at one input. -/
def fnBooksValueWrong : ChangeSpec := { name := "fnBooksValue", fn := fun _ => fun
  | [d] => { results := [.lit (.bool false)], args := [d] }
  | _ => none }
def FnBooksValueWrongFalsely : Prop := fnBooksValueRow.holds Tryd.pinned (OpenSpec.ofChange fnBooksValueWrong)

/-- 'laws.FnBooksPick': WHATEVER THE INPUT: true; the input reads as it did. -/
def fnBooksPickSpec : ChangeSpec := { name := "fnBooksPick", fn := fun _ => fun
  | [d] => { results := [.lit (.bool true)], args := [d] }
  | _ => none }
def fnBooksPickRow : OpenClaim := { program := "ytjijaejlcbailaadoor", sum := "b4132480f9efabeb1b81d3306c86f8ee6043b5e0f35f6ab55be9c50bcfdfc127", func := "loop.example/parkinghouse/laws.FnBooksPick", spec := "fnBooksPick", inPlace := ["internal/abi.NoEscape"], unfollowed := true, recurses := true, named := ["internal/strconv.uint64pow10", "math/bits.deBruijn32tab", "math/bits.deBruijn64tab"], apart := false, laid := [("math/bits.deBruijn32tab", laid_math_bits_deBruijn32tab), ("math/bits.deBruijn64tab", laid_math_bits_deBruijn64tab), ("internal/strconv.uint64pow10", laid_internal_strconv_uint64pow10)] }
def FnBooksPickSaid : Prop := fnBooksPickRow.holds Tryd.pinned (OpenSpec.ofChange fnBooksPickSpec)

/-- ITS FALSE NEIGHBOUR: 'it returns false'. Refute it at one input. -/
def fnBooksPickWrong : ChangeSpec := { name := "fnBooksPick", fn := fun _ => fun
  | [d] => { results := [.lit (.bool false)], args := [d] }
  | _ => none }
def FnBooksPickWrongFalsely : Prop := fnBooksPickRow.holds Tryd.pinned (OpenSpec.ofChange fnBooksPickWrong)

/- THE SECOND FORM. 'bulk': how many values and letters a reading holds, each counted each time it is reached (what is shared counts as often as it is met; a slice's spare places count too). A statement '..UptoSaid' is the law's where the arguments, and the package variables that the reading takes, are together of bulk at most 1048576: NARROWER than '..Said'. Prove '..Said' where nothing that the law and all that it calls make is longer than what came in: it says more and counts as full. Else prove '..UptoSaid'. A law counts once. -/
mutual
def uptoBulk {H : Type} : DataW H → Nat
  | .lit (.string bytes) => bytes.length + 1
  | .lit _ => 1
  | .nil => 1
  | .ptr d => uptoBulk d + 1
  | .slice elems spare => uptoBulkAll elems + uptoBulkAll spare + 1
  | .agg parts => uptoBulkAll parts + 1
  | .iface _ d => uptoBulk d + 1
  | .map entries => uptoBulkEntries entries + 1
  | .held _ => 1
def uptoBulkAll {H : Type} : List (DataW H) → Nat
  | [] => 0
  | d :: r => uptoBulk d + uptoBulkAll r
def uptoBulkEntries {H : Type} : List (Lit × DataW H) → Nat
  | [] => 0
  | x :: r => uptoBulkEntry x + uptoBulkEntries r
def uptoBulkEntry {H : Type} : Lit × DataW H → Nat
  | (.string bytes, d) => bytes.length + uptoBulk d + 1
  | (_, d) => uptoBulk d + 1
 end
def uptoSmall : (H : Type) → List (DataW H) → Bool := fun _ ds => decide (uptoBulkAll ds ≤ 1048576)
def OpenSpec.upto (s : _root_.Go.ChangeSpec) : _root_.Go.OpenSpec := { _root_.Go.OpenSpec.ofChange s with cond := some uptoSmall }

/-- 'laws.FnBooksValid', WHERE WHAT IT READS IS OF BULK AT MOST 1048576: true; the input reads as it did. -/
def fnBooksValidUptoRow : OpenClaim := { program := "ytjijaejlcbailaadoor", sum := "b4132480f9efabeb1b81d3306c86f8ee6043b5e0f35f6ab55be9c50bcfdfc127", func := "loop.example/parkinghouse/laws.FnBooksValid", spec := "fnBooksValid", inPlace := ["internal/abi.NoEscape"], unfollowed := true, recurses := true, named := ["internal/strconv.uint64pow10", "math/bits.deBruijn32tab", "math/bits.deBruijn64tab"], apart := false, laid := [("math/bits.deBruijn32tab", laid_math_bits_deBruijn32tab), ("math/bits.deBruijn64tab", laid_math_bits_deBruijn64tab), ("internal/strconv.uint64pow10", laid_internal_strconv_uint64pow10)], narrowed := true }
def FnBooksValidUptoSaid : Prop := fnBooksValidUptoRow.holds Tryd.pinned (OpenSpec.upto fnBooksValidSpec)

/-- 'laws.FnCoinsValid', WHERE WHAT IT READS IS OF BULK AT MOST 1048576: true; the input reads as it did. -/
def fnCoinsValidUptoRow : OpenClaim := { program := "ytjijaejlcbailaadoor", sum := "b4132480f9efabeb1b81d3306c86f8ee6043b5e0f35f6ab55be9c50bcfdfc127", func := "loop.example/parkinghouse/laws.FnCoinsValid", spec := "fnCoinsValid", inPlace := ["internal/abi.NoEscape"], named := ["internal/strconv.uint64pow10", "math/bits.deBruijn32tab", "math/bits.deBruijn64tab"], apart := false, laid := [("math/bits.deBruijn32tab", laid_math_bits_deBruijn32tab), ("math/bits.deBruijn64tab", laid_math_bits_deBruijn64tab), ("internal/strconv.uint64pow10", laid_internal_strconv_uint64pow10)], narrowed := true }
def FnCoinsValidUptoSaid : Prop := fnCoinsValidUptoRow.holds Tryd.pinned (OpenSpec.upto fnCoinsValidSpec)

/-- 'laws.FnCoinSum', WHERE WHAT IT READS IS OF BULK AT MOST 1048576: true; the input reads as it did. -/
def fnCoinSumUptoRow : OpenClaim := { program := "ytjijaejlcbailaadoor", sum := "b4132480f9efabeb1b81d3306c86f8ee6043b5e0f35f6ab55be9c50bcfdfc127", func := "loop.example/parkinghouse/laws.FnCoinSum", spec := "fnCoinSum", inPlace := ["internal/abi.NoEscape"], named := ["internal/strconv.uint64pow10", "math/bits.deBruijn32tab", "math/bits.deBruijn64tab"], apart := false, laid := [("math/bits.deBruijn32tab", laid_math_bits_deBruijn32tab), ("math/bits.deBruijn64tab", laid_math_bits_deBruijn64tab), ("internal/strconv.uint64pow10", laid_internal_strconv_uint64pow10)], narrowed := true }
def FnCoinSumUptoSaid : Prop := fnCoinSumUptoRow.holds Tryd.pinned (OpenSpec.upto fnCoinSumSpec)

/-- 'laws.FnCheapTariff', WHERE WHAT IT READS IS OF BULK AT MOST 1048576: true; the input reads as it did. -/
def fnCheapTariffUptoRow : OpenClaim := { program := "ytjijaejlcbailaadoor", sum := "b4132480f9efabeb1b81d3306c86f8ee6043b5e0f35f6ab55be9c50bcfdfc127", func := "loop.example/parkinghouse/laws.FnCheapTariff", spec := "fnCheapTariff", inPlace := ["internal/abi.NoEscape"], named := ["internal/strconv.uint64pow10", "math/bits.deBruijn32tab", "math/bits.deBruijn64tab"], apart := false, laid := [("math/bits.deBruijn32tab", laid_math_bits_deBruijn32tab), ("math/bits.deBruijn64tab", laid_math_bits_deBruijn64tab), ("internal/strconv.uint64pow10", laid_internal_strconv_uint64pow10)], narrowed := true }
def FnCheapTariffUptoSaid : Prop := fnCheapTariffUptoRow.holds Tryd.pinned (OpenSpec.upto fnCheapTariffSpec)

/-- 'laws.FnBooksMost', WHERE WHAT IT READS IS OF BULK AT MOST 1048576: true; the input reads as it did. -/
def fnBooksMostUptoRow : OpenClaim := { program := "ytjijaejlcbailaadoor", sum := "b4132480f9efabeb1b81d3306c86f8ee6043b5e0f35f6ab55be9c50bcfdfc127", func := "loop.example/parkinghouse/laws.FnBooksMost", spec := "fnBooksMost", inPlace := ["internal/abi.NoEscape"], unfollowed := true, recurses := true, named := ["internal/strconv.uint64pow10", "math/bits.deBruijn32tab", "math/bits.deBruijn64tab"], apart := false, laid := [("math/bits.deBruijn32tab", laid_math_bits_deBruijn32tab), ("math/bits.deBruijn64tab", laid_math_bits_deBruijn64tab), ("internal/strconv.uint64pow10", laid_internal_strconv_uint64pow10)], narrowed := true }
def FnBooksMostUptoSaid : Prop := fnBooksMostUptoRow.holds Tryd.pinned (OpenSpec.upto fnBooksMostSpec)

/-- 'laws.FnCoinsLeast', WHERE WHAT IT READS IS OF BULK AT MOST 1048576: true; the input reads as it did. -/
def fnCoinsLeastUptoRow : OpenClaim := { program := "ytjijaejlcbailaadoor", sum := "b4132480f9efabeb1b81d3306c86f8ee6043b5e0f35f6ab55be9c50bcfdfc127", func := "loop.example/parkinghouse/laws.FnCoinsLeast", spec := "fnCoinsLeast", inPlace := ["internal/abi.NoEscape"], named := ["internal/strconv.uint64pow10", "math/bits.deBruijn32tab", "math/bits.deBruijn64tab"], apart := false, laid := [("math/bits.deBruijn32tab", laid_math_bits_deBruijn32tab), ("math/bits.deBruijn64tab", laid_math_bits_deBruijn64tab), ("internal/strconv.uint64pow10", laid_internal_strconv_uint64pow10)], narrowed := true }
def FnCoinsLeastUptoSaid : Prop := fnCoinsLeastUptoRow.holds Tryd.pinned (OpenSpec.upto fnCoinsLeastSpec)

/-- 'laws.FnCoinsGreedy', WHERE WHAT IT READS IS OF BULK AT MOST 1048576: true; the input reads as it did. -/
def fnCoinsGreedyUptoRow : OpenClaim := { program := "ytjijaejlcbailaadoor", sum := "b4132480f9efabeb1b81d3306c86f8ee6043b5e0f35f6ab55be9c50bcfdfc127", func := "loop.example/parkinghouse/laws.FnCoinsGreedy", spec := "fnCoinsGreedy", inPlace := ["internal/abi.NoEscape"], named := ["internal/strconv.uint64pow10", "math/bits.deBruijn32tab", "math/bits.deBruijn64tab"], apart := false, laid := [("math/bits.deBruijn32tab", laid_math_bits_deBruijn32tab), ("math/bits.deBruijn64tab", laid_math_bits_deBruijn64tab), ("internal/strconv.uint64pow10", laid_internal_strconv_uint64pow10)], narrowed := true }
def FnCoinsGreedyUptoSaid : Prop := fnCoinsGreedyUptoRow.holds Tryd.pinned (OpenSpec.upto fnCoinsGreedySpec)

/-- 'laws.FnGreedySafe', WHERE WHAT IT READS IS OF BULK AT MOST 1048576: true; the input reads as it did. -/
def fnGreedySafeUptoRow : OpenClaim := { program := "ytjijaejlcbailaadoor", sum := "b4132480f9efabeb1b81d3306c86f8ee6043b5e0f35f6ab55be9c50bcfdfc127", func := "loop.example/parkinghouse/laws.FnGreedySafe", spec := "fnGreedySafe", inPlace := ["internal/abi.NoEscape"], named := ["internal/strconv.uint64pow10", "math/bits.deBruijn32tab", "math/bits.deBruijn64tab"], apart := false, laid := [("math/bits.deBruijn32tab", laid_math_bits_deBruijn32tab), ("math/bits.deBruijn64tab", laid_math_bits_deBruijn64tab), ("internal/strconv.uint64pow10", laid_internal_strconv_uint64pow10)], narrowed := true }
def FnGreedySafeUptoSaid : Prop := fnGreedySafeUptoRow.holds Tryd.pinned (OpenSpec.upto fnGreedySafeSpec)

/-- 'laws.FnCoinsFor', WHERE WHAT IT READS IS OF BULK AT MOST 1048576: true; the input reads as it did. -/
def fnCoinsForUptoRow : OpenClaim := { program := "ytjijaejlcbailaadoor", sum := "b4132480f9efabeb1b81d3306c86f8ee6043b5e0f35f6ab55be9c50bcfdfc127", func := "loop.example/parkinghouse/laws.FnCoinsFor", spec := "fnCoinsFor", inPlace := ["internal/abi.NoEscape"], named := ["internal/strconv.uint64pow10", "math/bits.deBruijn32tab", "math/bits.deBruijn64tab"], apart := false, laid := [("math/bits.deBruijn32tab", laid_math_bits_deBruijn32tab), ("math/bits.deBruijn64tab", laid_math_bits_deBruijn64tab), ("internal/strconv.uint64pow10", laid_internal_strconv_uint64pow10)], narrowed := true }
def FnCoinsForUptoSaid : Prop := fnCoinsForUptoRow.holds Tryd.pinned (OpenSpec.upto fnCoinsForSpec)

/-- 'laws.FnChangeFrom', WHERE WHAT IT READS IS OF BULK AT MOST 1048576: true; the input reads as it did. -/
def fnChangeFromUptoRow : OpenClaim := { program := "ytjijaejlcbailaadoor", sum := "b4132480f9efabeb1b81d3306c86f8ee6043b5e0f35f6ab55be9c50bcfdfc127", func := "loop.example/parkinghouse/laws.FnChangeFrom", spec := "fnChangeFrom", inPlace := ["internal/abi.NoEscape"], recurses := true, named := ["internal/strconv.uint64pow10", "math/bits.deBruijn32tab", "math/bits.deBruijn64tab"], apart := false, laid := [("math/bits.deBruijn32tab", laid_math_bits_deBruijn32tab), ("math/bits.deBruijn64tab", laid_math_bits_deBruijn64tab), ("internal/strconv.uint64pow10", laid_internal_strconv_uint64pow10)], narrowed := true }
def FnChangeFromUptoSaid : Prop := fnChangeFromUptoRow.holds Tryd.pinned (OpenSpec.upto fnChangeFromSpec)

/-- 'laws.FnBooksValue', WHERE WHAT IT READS IS OF BULK AT MOST 1048576: true; the input reads as it did. -/
def fnBooksValueUptoRow : OpenClaim := { program := "ytjijaejlcbailaadoor", sum := "b4132480f9efabeb1b81d3306c86f8ee6043b5e0f35f6ab55be9c50bcfdfc127", func := "loop.example/parkinghouse/laws.FnBooksValue", spec := "fnBooksValue", inPlace := ["internal/abi.NoEscape"], unfollowed := true, recurses := true, named := ["internal/strconv.uint64pow10", "math/bits.deBruijn32tab", "math/bits.deBruijn64tab"], apart := false, laid := [("math/bits.deBruijn32tab", laid_math_bits_deBruijn32tab), ("math/bits.deBruijn64tab", laid_math_bits_deBruijn64tab), ("internal/strconv.uint64pow10", laid_internal_strconv_uint64pow10)], narrowed := true }
def FnBooksValueUptoSaid : Prop := fnBooksValueUptoRow.holds Tryd.pinned (OpenSpec.upto fnBooksValueSpec)

/-- 'laws.FnBooksPick', WHERE WHAT IT READS IS OF BULK AT MOST 1048576: true; the input reads as it did. -/
def fnBooksPickUptoRow : OpenClaim := { program := "ytjijaejlcbailaadoor", sum := "b4132480f9efabeb1b81d3306c86f8ee6043b5e0f35f6ab55be9c50bcfdfc127", func := "loop.example/parkinghouse/laws.FnBooksPick", spec := "fnBooksPick", inPlace := ["internal/abi.NoEscape"], unfollowed := true, recurses := true, named := ["internal/strconv.uint64pow10", "math/bits.deBruijn32tab", "math/bits.deBruijn64tab"], apart := false, laid := [("math/bits.deBruijn32tab", laid_math_bits_deBruijn32tab), ("math/bits.deBruijn64tab", laid_math_bits_deBruijn64tab), ("internal/strconv.uint64pow10", laid_internal_strconv_uint64pow10)], narrowed := true }
def FnBooksPickUptoSaid : Prop := fnBooksPickUptoRow.holds Tryd.pinned (OpenSpec.upto fnBooksPickSpec)

end Rows
end Go.Proofs.YtjijaejlcbailaaDoor
