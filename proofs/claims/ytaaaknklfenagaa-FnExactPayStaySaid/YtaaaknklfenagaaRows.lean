/-
  No cell of these rows narrows 'for every input' (looked for: loops, veiled, ifaces, maps, wideKeys, modest, calm, conditions, laid).
  DERIVED. THE GIVEN ROWS OF THIS SEAT. 11 by the template 'for every input the law returns true; each argument reads behind the call as it read before'; 0 by the template 'total and deterministic' (their statements: YtaaaknklfenagaaTotals.lean).
  GIVEN WITH THE SEED: the statements are not yours to turn. If you find one false, say at which input.
  Laid BY PROGRAM, IN A SANDBOX (cutbox-rows.mjs): the forced cells as the released guide's own fill.sh prints them over the translation 85b57d764383ccfc… (all of the seat's roots in one cut). By AI agents, Wed Nov 11 2026. No macro, syntax, notation, axiom, sorry.
-/
import Derived.Test.YtaaaknklfenagaaChecked
import GoSem.Claim
import GoSem.ClaimJoined
import GoSem.ClaimMapViews
import Derived.JoinedTies
import Derived.KernelRfl
namespace Go.Proofs.Ytaaaknklfenagaa
/- THE CELL 'sum', in the pinned program and in every row, IS THE sha256 OF THE DUMP (.gsa) THAT YtaaaknklfenagaaProg.lean LOADS. Nothing in Lean hashes anything: it is a label: what it is worth is what the hold of that sum in a sandbox is worth. -/
noncomputable def Try.pinned : Pinned := { name := "ytaaaknklfenagaa", sum := "85b57d764383ccfcc22456ddad44488eb93c8b49c2cc166a310e4e576629afbc", checked := Try.checked }
namespace Rows
def none {H : Type} : Left H := { results := [], args := [] }

/-- 'laws.FnExactMayLeave': WHATEVER THE INPUT: true; the input reads as it did. -/
def fnExactMayLeaveSpec : ChangeSpec := { name := "fnExactMayLeave", fn := fun _ => fun
  | [d1, d2, d3] => { results := [.lit (.bool true)], args := [d1, d2, d3] }
  | _ => none }
def fnExactMayLeaveRow : OpenClaim := { program := "ytaaaknklfenagaa", sum := "85b57d764383ccfcc22456ddad44488eb93c8b49c2cc166a310e4e576629afbc", func := "loop.example/parkinghouse/laws.FnExactMayLeave", spec := "fnExactMayLeave", apart := false }
def FnExactMayLeaveSaid : Prop := fnExactMayLeaveRow.holds Try.pinned (OpenSpec.ofChange fnExactMayLeaveSpec)

/-- ITS FALSE NEIGHBOUR: 'it returns false'. Refute it at one input. -/
def fnExactMayLeaveWrong : ChangeSpec := { name := "fnExactMayLeave", fn := fun _ => fun
  | [d1, d2, d3] => { results := [.lit (.bool false)], args := [d1, d2, d3] }
  | _ => none }
def FnExactMayLeaveWrongFalsely : Prop := fnExactMayLeaveRow.holds Try.pinned (OpenSpec.ofChange fnExactMayLeaveWrong)

/-- 'laws.FnExactCoinsGreedy': WHATEVER THE INPUT: true; the input reads as it did. -/
def fnExactCoinsGreedySpec : ChangeSpec := { name := "fnExactCoinsGreedy", fn := fun _ => fun
  | [d1, d2] => { results := [.lit (.bool true)], args := [d1, d2] }
  | _ => none }
def fnExactCoinsGreedyRow : OpenClaim := { program := "ytaaaknklfenagaa", sum := "85b57d764383ccfcc22456ddad44488eb93c8b49c2cc166a310e4e576629afbc", func := "loop.example/parkinghouse/laws.FnExactCoinsGreedy", spec := "fnExactCoinsGreedy", apart := false }
def FnExactCoinsGreedySaid : Prop := fnExactCoinsGreedyRow.holds Try.pinned (OpenSpec.ofChange fnExactCoinsGreedySpec)

/-- ITS FALSE NEIGHBOUR: 'it returns false'. Refute it at one input. -/
def fnExactCoinsGreedyWrong : ChangeSpec := { name := "fnExactCoinsGreedy", fn := fun _ => fun
  | [d1, d2] => { results := [.lit (.bool false)], args := [d1, d2] }
  | _ => none }
def FnExactCoinsGreedyWrongFalsely : Prop := fnExactCoinsGreedyRow.holds Try.pinned (OpenSpec.ofChange fnExactCoinsGreedyWrong)

/-- 'laws.FnExactBooksValid': WHATEVER THE INPUT: true; the input reads as it did. -/
def fnExactBooksValidSpec : ChangeSpec := { name := "fnExactBooksValid", fn := fun _ => fun
  | [d] => { results := [.lit (.bool true)], args := [d] }
  | _ => none }
def fnExactBooksValidRow : OpenClaim := { program := "ytaaaknklfenagaa", sum := "85b57d764383ccfcc22456ddad44488eb93c8b49c2cc166a310e4e576629afbc", func := "loop.example/parkinghouse/laws.FnExactBooksValid", spec := "fnExactBooksValid", unfollowed := true, recurses := true, apart := false }
def FnExactBooksValidSaid : Prop := fnExactBooksValidRow.holds Try.pinned (OpenSpec.ofChange fnExactBooksValidSpec)

/-- ITS FALSE NEIGHBOUR: 'it returns false'. Refute it at one input. -/
def fnExactBooksValidWrong : ChangeSpec := { name := "fnExactBooksValid", fn := fun _ => fun
  | [d] => { results := [.lit (.bool false)], args := [d] }
  | _ => none }
def FnExactBooksValidWrongFalsely : Prop := fnExactBooksValidRow.holds Try.pinned (OpenSpec.ofChange fnExactBooksValidWrong)

/-- 'laws.FnExactPayStay': WHATEVER THE INPUT: true; the input reads as it did. -/
def fnExactPayStaySpec : ChangeSpec := { name := "fnExactPayStay", fn := fun _ => fun
  | [d1, d2, d3, d4] => { results := [.lit (.bool true)], args := [d1, d2, d3, d4] }
  | _ => none }
def fnExactPayStayRow : OpenClaim := { program := "ytaaaknklfenagaa", sum := "85b57d764383ccfcc22456ddad44488eb93c8b49c2cc166a310e4e576629afbc", func := "loop.example/parkinghouse/laws.FnExactPayStay", spec := "fnExactPayStay", apart := false }
def FnExactPayStaySaid : Prop := fnExactPayStayRow.holds Try.pinned (OpenSpec.ofChange fnExactPayStaySpec)

/-- ITS FALSE NEIGHBOUR: 'it returns false'. Refute it at one input. -/
def fnExactPayStayWrong : ChangeSpec := { name := "fnExactPayStay", fn := fun _ => fun
  | [d1, d2, d3, d4] => { results := [.lit (.bool false)], args := [d1, d2, d3, d4] }
  | _ => none }
def FnExactPayStayWrongFalsely : Prop := fnExactPayStayRow.holds Try.pinned (OpenSpec.ofChange fnExactPayStayWrong)

/-- 'laws.FnExactCheapTariff': WHATEVER THE INPUT: true; the input reads as it did. -/
def fnExactCheapTariffSpec : ChangeSpec := { name := "fnExactCheapTariff", fn := fun _ => fun
  | [d1, d2] => { results := [.lit (.bool true)], args := [d1, d2] }
  | _ => none }
def fnExactCheapTariffRow : OpenClaim := { program := "ytaaaknklfenagaa", sum := "85b57d764383ccfcc22456ddad44488eb93c8b49c2cc166a310e4e576629afbc", func := "loop.example/parkinghouse/laws.FnExactCheapTariff", spec := "fnExactCheapTariff", apart := false }
def FnExactCheapTariffSaid : Prop := fnExactCheapTariffRow.holds Try.pinned (OpenSpec.ofChange fnExactCheapTariffSpec)

/-- ITS FALSE NEIGHBOUR: 'it returns false'. Refute it at one input. -/
def fnExactCheapTariffWrong : ChangeSpec := { name := "fnExactCheapTariff", fn := fun _ => fun
  | [d1, d2] => { results := [.lit (.bool false)], args := [d1, d2] }
  | _ => none }
def FnExactCheapTariffWrongFalsely : Prop := fnExactCheapTariffRow.holds Try.pinned (OpenSpec.ofChange fnExactCheapTariffWrong)

/-- 'laws.FnExactBooksValue': WHATEVER THE INPUT: true; the input reads as it did. -/
def fnExactBooksValueSpec : ChangeSpec := { name := "fnExactBooksValue", fn := fun _ => fun
  | [d] => { results := [.lit (.bool true)], args := [d] }
  | _ => none }
def fnExactBooksValueRow : OpenClaim := { program := "ytaaaknklfenagaa", sum := "85b57d764383ccfcc22456ddad44488eb93c8b49c2cc166a310e4e576629afbc", func := "loop.example/parkinghouse/laws.FnExactBooksValue", spec := "fnExactBooksValue", unfollowed := true, recurses := true, apart := false }
def FnExactBooksValueSaid : Prop := fnExactBooksValueRow.holds Try.pinned (OpenSpec.ofChange fnExactBooksValueSpec)

/-- ITS FALSE NEIGHBOUR: 'it returns false'. Refute it at one input. -/
def fnExactBooksValueWrong : ChangeSpec := { name := "fnExactBooksValue", fn := fun _ => fun
  | [d] => { results := [.lit (.bool false)], args := [d] }
  | _ => none }
def FnExactBooksValueWrongFalsely : Prop := fnExactBooksValueRow.holds Try.pinned (OpenSpec.ofChange fnExactBooksValueWrong)

/-- 'laws.FnExactBooksMost': WHATEVER THE INPUT: true; the input reads as it did. -/
def fnExactBooksMostSpec : ChangeSpec := { name := "fnExactBooksMost", fn := fun _ => fun
  | [d] => { results := [.lit (.bool true)], args := [d] }
  | _ => none }
def fnExactBooksMostRow : OpenClaim := { program := "ytaaaknklfenagaa", sum := "85b57d764383ccfcc22456ddad44488eb93c8b49c2cc166a310e4e576629afbc", func := "loop.example/parkinghouse/laws.FnExactBooksMost", spec := "fnExactBooksMost", unfollowed := true, recurses := true, apart := false }
def FnExactBooksMostSaid : Prop := fnExactBooksMostRow.holds Try.pinned (OpenSpec.ofChange fnExactBooksMostSpec)

/-- ITS FALSE NEIGHBOUR: 'it returns false'. Refute it at one input. -/
def fnExactBooksMostWrong : ChangeSpec := { name := "fnExactBooksMost", fn := fun _ => fun
  | [d] => { results := [.lit (.bool false)], args := [d] }
  | _ => none }
def FnExactBooksMostWrongFalsely : Prop := fnExactBooksMostRow.holds Try.pinned (OpenSpec.ofChange fnExactBooksMostWrong)

/-- 'laws.FnExactCoinsFor': WHATEVER THE INPUT: true; the input reads as it did. -/
def fnExactCoinsForSpec : ChangeSpec := { name := "fnExactCoinsFor", fn := fun _ => fun
  | [d1, d2] => { results := [.lit (.bool true)], args := [d1, d2] }
  | _ => none }
def fnExactCoinsForRow : OpenClaim := { program := "ytaaaknklfenagaa", sum := "85b57d764383ccfcc22456ddad44488eb93c8b49c2cc166a310e4e576629afbc", func := "loop.example/parkinghouse/laws.FnExactCoinsFor", spec := "fnExactCoinsFor", apart := false }
def FnExactCoinsForSaid : Prop := fnExactCoinsForRow.holds Try.pinned (OpenSpec.ofChange fnExactCoinsForSpec)

/-- ITS FALSE NEIGHBOUR: 'it returns false'. Refute it at one input. -/
def fnExactCoinsForWrong : ChangeSpec := { name := "fnExactCoinsFor", fn := fun _ => fun
  | [d1, d2] => { results := [.lit (.bool false)], args := [d1, d2] }
  | _ => none }
def FnExactCoinsForWrongFalsely : Prop := fnExactCoinsForRow.holds Try.pinned (OpenSpec.ofChange fnExactCoinsForWrong)

/-- 'laws.FnExactGreedySafe': WHATEVER THE INPUT: true; the input reads as it did. -/
def fnExactGreedySafeSpec : ChangeSpec := { name := "fnExactGreedySafe", fn := fun _ => fun
  | [d] => { results := [.lit (.bool true)], args := [d] }
  | _ => none }
def fnExactGreedySafeRow : OpenClaim := { program := "ytaaaknklfenagaa", sum := "85b57d764383ccfcc22456ddad44488eb93c8b49c2cc166a310e4e576629afbc", func := "loop.example/parkinghouse/laws.FnExactGreedySafe", spec := "fnExactGreedySafe", apart := false }
def FnExactGreedySafeSaid : Prop := fnExactGreedySafeRow.holds Try.pinned (OpenSpec.ofChange fnExactGreedySafeSpec)

/-- ITS FALSE NEIGHBOUR: 'it returns false'. Refute it at one input. -/
def fnExactGreedySafeWrong : ChangeSpec := { name := "fnExactGreedySafe", fn := fun _ => fun
  | [d] => { results := [.lit (.bool false)], args := [d] }
  | _ => none }
def FnExactGreedySafeWrongFalsely : Prop := fnExactGreedySafeRow.holds Try.pinned (OpenSpec.ofChange fnExactGreedySafeWrong)

/-- 'laws.FnExactChangeFrom': WHATEVER THE INPUT: true; the input reads as it did. -/
def fnExactChangeFromSpec : ChangeSpec := { name := "fnExactChangeFrom", fn := fun _ => fun
  | [d1, d2, d3] => { results := [.lit (.bool true)], args := [d1, d2, d3] }
  | _ => none }
def fnExactChangeFromRow : OpenClaim := { program := "ytaaaknklfenagaa", sum := "85b57d764383ccfcc22456ddad44488eb93c8b49c2cc166a310e4e576629afbc", func := "loop.example/parkinghouse/laws.FnExactChangeFrom", spec := "fnExactChangeFrom", recurses := true, apart := false }
def FnExactChangeFromSaid : Prop := fnExactChangeFromRow.holds Try.pinned (OpenSpec.ofChange fnExactChangeFromSpec)

/-- ITS FALSE NEIGHBOUR: 'it returns false'. Refute it at one input. -/
def fnExactChangeFromWrong : ChangeSpec := { name := "fnExactChangeFrom", fn := fun _ => fun
  | [d1, d2, d3] => { results := [.lit (.bool false)], args := [d1, d2, d3] }
  | _ => none }
def FnExactChangeFromWrongFalsely : Prop := fnExactChangeFromRow.holds Try.pinned (OpenSpec.ofChange fnExactChangeFromWrong)

/-- 'laws.FnExactBooksPick': WHATEVER THE INPUT: true; the input reads as it did. -/
def fnExactBooksPickSpec : ChangeSpec := { name := "fnExactBooksPick", fn := fun _ => fun
  | [d1, d2] => { results := [.lit (.bool true)], args := [d1, d2] }
  | _ => none }
def fnExactBooksPickRow : OpenClaim := { program := "ytaaaknklfenagaa", sum := "85b57d764383ccfcc22456ddad44488eb93c8b49c2cc166a310e4e576629afbc", func := "loop.example/parkinghouse/laws.FnExactBooksPick", spec := "fnExactBooksPick", unfollowed := true, recurses := true, apart := false }
def FnExactBooksPickSaid : Prop := fnExactBooksPickRow.holds Try.pinned (OpenSpec.ofChange fnExactBooksPickSpec)

/-- ITS FALSE NEIGHBOUR: 'it returns false'. Refute it at one input. -/
def fnExactBooksPickWrong : ChangeSpec := { name := "fnExactBooksPick", fn := fun _ => fun
  | [d1, d2] => { results := [.lit (.bool false)], args := [d1, d2] }
  | _ => none }
def FnExactBooksPickWrongFalsely : Prop := fnExactBooksPickRow.holds Try.pinned (OpenSpec.ofChange fnExactBooksPickWrong)

/- THE SECOND FORM. 'bulk': how many values and letters a reading holds, each counted each time it is reached (what is shared counts as often as it is met; a slice's spare places count too). A statement '..UptoSaid' is the law's where the arguments, and the package variables that the reading takes, are together of bulk at most 1048576: NARROWER than '..Said'. Prove '..Said' where nothing that the law and all that it calls make is longer than what came in: it says more and counts as full. Else prove '..UptoSaid'. A law counts once. -/
mutual
def uptoBulk {H : Type} : DataW H → Nat
  | .lit (.string bytes) => bytes.length + 1
  | .lit _ => 1
  | .nil => 1
  | .ptr d => uptoBulk d + 1
  | .slice elems spare => uptoBulkAll elems + uptoBulkAll spare + 1
  | .agg parts => uptoBulkAll parts + 1
  | .iface _ d => uptoBulk d + 1
  | .map entries => uptoBulkEntries entries + 1
  | .held _ => 1
def uptoBulkAll {H : Type} : List (DataW H) → Nat
  | [] => 0
  | d :: r => uptoBulk d + uptoBulkAll r
def uptoBulkEntries {H : Type} : List (Lit × DataW H) → Nat
  | [] => 0
  | x :: r => uptoBulkEntry x + uptoBulkEntries r
def uptoBulkEntry {H : Type} : Lit × DataW H → Nat
  | (.string bytes, d) => bytes.length + uptoBulk d + 1
  | (_, d) => uptoBulk d + 1
 end
def uptoSmall : (H : Type) → List (DataW H) → Bool := fun _ ds => decide (uptoBulkAll ds ≤ 1048576)
def OpenSpec.upto (s : _root_.Go.ChangeSpec) : _root_.Go.OpenSpec := { _root_.Go.OpenSpec.ofChange s with cond := some uptoSmall }

/-- 'laws.FnExactMayLeave', WHERE WHAT IT READS IS OF BULK AT MOST 1048576: true; the input reads as it did. -/
def fnExactMayLeaveUptoRow : OpenClaim := { program := "ytaaaknklfenagaa", sum := "85b57d764383ccfcc22456ddad44488eb93c8b49c2cc166a310e4e576629afbc", func := "loop.example/parkinghouse/laws.FnExactMayLeave", spec := "fnExactMayLeave", apart := false, narrowed := true }
def FnExactMayLeaveUptoSaid : Prop := fnExactMayLeaveUptoRow.holds Try.pinned (OpenSpec.upto fnExactMayLeaveSpec)

/-- 'laws.FnExactCoinsGreedy', WHERE WHAT IT READS IS OF BULK AT MOST 1048576: true; the input reads as it did. -/
def fnExactCoinsGreedyUptoRow : OpenClaim := { program := "ytaaaknklfenagaa", sum := "85b57d764383ccfcc22456ddad44488eb93c8b49c2cc166a310e4e576629afbc", func := "loop.example/parkinghouse/laws.FnExactCoinsGreedy", spec := "fnExactCoinsGreedy", apart := false, narrowed := true }
def FnExactCoinsGreedyUptoSaid : Prop := fnExactCoinsGreedyUptoRow.holds Try.pinned (OpenSpec.upto fnExactCoinsGreedySpec)

/-- 'laws.FnExactBooksValid', WHERE WHAT IT READS IS OF BULK AT MOST 1048576: true; the input reads as it did. -/
def fnExactBooksValidUptoRow : OpenClaim := { program := "ytaaaknklfenagaa", sum := "85b57d764383ccfcc22456ddad44488eb93c8b49c2cc166a310e4e576629afbc", func := "loop.example/parkinghouse/laws.FnExactBooksValid", spec := "fnExactBooksValid", unfollowed := true, recurses := true, apart := false, narrowed := true }
def FnExactBooksValidUptoSaid : Prop := fnExactBooksValidUptoRow.holds Try.pinned (OpenSpec.upto fnExactBooksValidSpec)

/-- 'laws.FnExactPayStay', WHERE WHAT IT READS IS OF BULK AT MOST 1048576: true; the input reads as it did. -/
def fnExactPayStayUptoRow : OpenClaim := { program := "ytaaaknklfenagaa", sum := "85b57d764383ccfcc22456ddad44488eb93c8b49c2cc166a310e4e576629afbc", func := "loop.example/parkinghouse/laws.FnExactPayStay", spec := "fnExactPayStay", apart := false, narrowed := true }
def FnExactPayStayUptoSaid : Prop := fnExactPayStayUptoRow.holds Try.pinned (OpenSpec.upto fnExactPayStaySpec)

/-- 'laws.FnExactCheapTariff', WHERE WHAT IT READS IS OF BULK AT MOST 1048576: true; the input reads as it did. -/
def fnExactCheapTariffUptoRow : OpenClaim := { program := "ytaaaknklfenagaa", sum := "85b57d764383ccfcc22456ddad44488eb93c8b49c2cc166a310e4e576629afbc", func := "loop.example/parkinghouse/laws.FnExactCheapTariff", spec := "fnExactCheapTariff", apart := false, narrowed := true }
def FnExactCheapTariffUptoSaid : Prop := fnExactCheapTariffUptoRow.holds Try.pinned (OpenSpec.upto fnExactCheapTariffSpec)

/-- 'laws.FnExactBooksValue', WHERE WHAT IT READS IS OF BULK AT MOST 1048576: true; the input reads as it did. -/
def fnExactBooksValueUptoRow : OpenClaim := { program := "ytaaaknklfenagaa", sum := "85b57d764383ccfcc22456ddad44488eb93c8b49c2cc166a310e4e576629afbc", func := "loop.example/parkinghouse/laws.FnExactBooksValue", spec := "fnExactBooksValue", unfollowed := true, recurses := true, apart := false, narrowed := true }
def FnExactBooksValueUptoSaid : Prop := fnExactBooksValueUptoRow.holds Try.pinned (OpenSpec.upto fnExactBooksValueSpec)

/-- 'laws.FnExactBooksMost', WHERE WHAT IT READS IS OF BULK AT MOST 1048576: true; the input reads as it did. -/
def fnExactBooksMostUptoRow : OpenClaim := { program := "ytaaaknklfenagaa", sum := "85b57d764383ccfcc22456ddad44488eb93c8b49c2cc166a310e4e576629afbc", func := "loop.example/parkinghouse/laws.FnExactBooksMost", spec := "fnExactBooksMost", unfollowed := true, recurses := true, apart := false, narrowed := true }
def FnExactBooksMostUptoSaid : Prop := fnExactBooksMostUptoRow.holds Try.pinned (OpenSpec.upto fnExactBooksMostSpec)

/-- 'laws.FnExactCoinsFor', WHERE WHAT IT READS IS OF BULK AT MOST 1048576: true; the input reads as it did. -/
def fnExactCoinsForUptoRow : OpenClaim := { program := "ytaaaknklfenagaa", sum := "85b57d764383ccfcc22456ddad44488eb93c8b49c2cc166a310e4e576629afbc", func := "loop.example/parkinghouse/laws.FnExactCoinsFor", spec := "fnExactCoinsFor", apart := false, narrowed := true }
def FnExactCoinsForUptoSaid : Prop := fnExactCoinsForUptoRow.holds Try.pinned (OpenSpec.upto fnExactCoinsForSpec)

/-- 'laws.FnExactGreedySafe', WHERE WHAT IT READS IS OF BULK AT MOST 1048576: true; the input reads as it did. -/
def fnExactGreedySafeUptoRow : OpenClaim := { program := "ytaaaknklfenagaa", sum := "85b57d764383ccfcc22456ddad44488eb93c8b49c2cc166a310e4e576629afbc", func := "loop.example/parkinghouse/laws.FnExactGreedySafe", spec := "fnExactGreedySafe", apart := false, narrowed := true }
def FnExactGreedySafeUptoSaid : Prop := fnExactGreedySafeUptoRow.holds Try.pinned (OpenSpec.upto fnExactGreedySafeSpec)

/-- 'laws.FnExactChangeFrom', WHERE WHAT IT READS IS OF BULK AT MOST 1048576: true; the input reads as it did. -/
def fnExactChangeFromUptoRow : OpenClaim := { program := "ytaaaknklfenagaa", sum := "85b57d764383ccfcc22456ddad44488eb93c8b49c2cc166a310e4e576629afbc", func := "loop.example/parkinghouse/laws.FnExactChangeFrom", spec := "fnExactChangeFrom", recurses := true, apart := false, narrowed := true }
def FnExactChangeFromUptoSaid : Prop := fnExactChangeFromUptoRow.holds Try.pinned (OpenSpec.upto fnExactChangeFromSpec)

/-- 'laws.FnExactBooksPick', WHERE WHAT IT READS IS OF BULK AT MOST 1048576: true; the input reads as it did. -/
def fnExactBooksPickUptoRow : OpenClaim := { program := "ytaaaknklfenagaa", sum := "85b57d764383ccfcc22456ddad44488eb93c8b49c2cc166a310e4e576629afbc", func := "loop.example/parkinghouse/laws.FnExactBooksPick", spec := "fnExactBooksPick", unfollowed := true, recurses := true, apart := false, narrowed := true }
def FnExactBooksPickUptoSaid : Prop := fnExactBooksPickUptoRow.holds Try.pinned (OpenSpec.upto fnExactBooksPickSpec)

end Rows
end Go.Proofs.Ytaaaknklfenagaa
