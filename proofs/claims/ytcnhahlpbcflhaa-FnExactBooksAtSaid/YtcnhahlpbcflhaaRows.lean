/-
  No cell of these rows narrows 'for every input' (looked for: loops, veiled, ifaces, maps, wideKeys, modest, calm, conditions, laid).
  DERIVED. THE GIVEN ROWS OF THIS SEAT. 12 by the template 'for every input the law returns true; each argument reads behind the call as it read before'; 0 by the template 'total and deterministic' (their statements: YtcnhahlpbcflhaaTotals.lean).
  GIVEN WITH THE SEED: the statements are not yours to turn. If you find one false, say at which input.
  Laid BY PROGRAM, IN A SANDBOX (cutbox-rows.mjs): the forced cells as the released guide's own fill.sh prints them over the translation 19b137f3417fb052… (all of the seat's roots in one cut). By AI agents, Wed Nov 11 2026. No macro, syntax, notation, axiom, sorry.
-/
import Derived.Test.YtcnhahlpbcflhaaChecked
import GoSem.Claim
import GoSem.ClaimJoined
import GoSem.ClaimMapViews
import Derived.JoinedTies
import Derived.KernelRfl
namespace Go.Proofs.Ytcnhahlpbcflhaa
/- THE CELL 'sum', in the pinned program and in every row, IS THE sha256 OF THE DUMP (.gsa) THAT YtcnhahlpbcflhaaProg.lean LOADS. Nothing in Lean hashes anything: it is a label: what it is worth is what the hold of that sum in a sandbox is worth. -/
noncomputable def Try.pinned : Pinned := { name := "ytcnhahlpbcflhaa", sum := "19b137f3417fb0524b270de7225c5db03fbc5ed6ea2940d8d220fb68774aed9b", checked := Try.checked }
namespace Rows
def none {H : Type} : Left H := { results := [], args := [] }

/-- 'laws.FnExactOverlap': WHATEVER THE INPUT: true; the input reads as it did. -/
def fnExactOverlapSpec : ChangeSpec := { name := "fnExactOverlap", fn := fun _ => fun
  | [d1, d2] => { results := [.lit (.bool true)], args := [d1, d2] }
  | _ => none }
def fnExactOverlapRow : OpenClaim := { program := "ytcnhahlpbcflhaa", sum := "19b137f3417fb0524b270de7225c5db03fbc5ed6ea2940d8d220fb68774aed9b", func := "loop.example/parkinghouse/laws.FnExactOverlap", spec := "fnExactOverlap", apart := false }
def FnExactOverlapSaid : Prop := fnExactOverlapRow.holds Try.pinned (OpenSpec.ofChange fnExactOverlapSpec)

/-- ITS FALSE NEIGHBOUR: 'it returns false'. Refute it at one input. -/
def fnExactOverlapWrong : ChangeSpec := { name := "fnExactOverlap", fn := fun _ => fun
  | [d1, d2] => { results := [.lit (.bool false)], args := [d1, d2] }
  | _ => none }
def FnExactOverlapWrongFalsely : Prop := fnExactOverlapRow.holds Try.pinned (OpenSpec.ofChange fnExactOverlapWrong)

/-- 'laws.FnExactStayValid': WHATEVER THE INPUT: true; the input reads as it did. -/
def fnExactStayValidSpec : ChangeSpec := { name := "fnExactStayValid", fn := fun _ => fun
  | [d] => { results := [.lit (.bool true)], args := [d] }
  | _ => none }
def fnExactStayValidRow : OpenClaim := { program := "ytcnhahlpbcflhaa", sum := "19b137f3417fb0524b270de7225c5db03fbc5ed6ea2940d8d220fb68774aed9b", func := "loop.example/parkinghouse/laws.FnExactStayValid", spec := "fnExactStayValid", apart := false }
def FnExactStayValidSaid : Prop := fnExactStayValidRow.holds Try.pinned (OpenSpec.ofChange fnExactStayValidSpec)

/-- ITS FALSE NEIGHBOUR: 'it returns false'. Refute it at one input. -/
def fnExactStayValidWrong : ChangeSpec := { name := "fnExactStayValid", fn := fun _ => fun
  | [d] => { results := [.lit (.bool false)], args := [d] }
  | _ => none }
def FnExactStayValidWrongFalsely : Prop := fnExactStayValidRow.holds Try.pinned (OpenSpec.ofChange fnExactStayValidWrong)

/-- 'laws.FnExactBookValid': WHATEVER THE INPUT: true; the input reads as it did. -/
def fnExactBookValidSpec : ChangeSpec := { name := "fnExactBookValid", fn := fun _ => fun
  | [d] => { results := [.lit (.bool true)], args := [d] }
  | _ => none }
def fnExactBookValidRow : OpenClaim := { program := "ytcnhahlpbcflhaa", sum := "19b137f3417fb0524b270de7225c5db03fbc5ed6ea2940d8d220fb68774aed9b", func := "loop.example/parkinghouse/laws.FnExactBookValid", spec := "fnExactBookValid", apart := false }
def FnExactBookValidSaid : Prop := fnExactBookValidRow.holds Try.pinned (OpenSpec.ofChange fnExactBookValidSpec)

/-- ITS FALSE NEIGHBOUR: 'it returns false'. Refute it at one input. -/
def fnExactBookValidWrong : ChangeSpec := { name := "fnExactBookValid", fn := fun _ => fun
  | [d] => { results := [.lit (.bool false)], args := [d] }
  | _ => none }
def FnExactBookValidWrongFalsely : Prop := fnExactBookValidRow.holds Try.pinned (OpenSpec.ofChange fnExactBookValidWrong)

/-- 'laws.FnExactTariffValid': WHATEVER THE INPUT: true; the input reads as it did. -/
def fnExactTariffValidSpec : ChangeSpec := { name := "fnExactTariffValid", fn := fun _ => fun
  | [d] => { results := [.lit (.bool true)], args := [d] }
  | _ => none }
def fnExactTariffValidRow : OpenClaim := { program := "ytcnhahlpbcflhaa", sum := "19b137f3417fb0524b270de7225c5db03fbc5ed6ea2940d8d220fb68774aed9b", func := "loop.example/parkinghouse/laws.FnExactTariffValid", spec := "fnExactTariffValid", apart := false }
def FnExactTariffValidSaid : Prop := fnExactTariffValidRow.holds Try.pinned (OpenSpec.ofChange fnExactTariffValidSpec)

/-- ITS FALSE NEIGHBOUR: 'it returns false'. Refute it at one input. -/
def fnExactTariffValidWrong : ChangeSpec := { name := "fnExactTariffValid", fn := fun _ => fun
  | [d] => { results := [.lit (.bool false)], args := [d] }
  | _ => none }
def FnExactTariffValidWrongFalsely : Prop := fnExactTariffValidRow.holds Try.pinned (OpenSpec.ofChange fnExactTariffValidWrong)

/-- 'laws.FnExactFeeSteps': WHATEVER THE INPUT: true; the input reads as it did. -/
def fnExactFeeStepsSpec : ChangeSpec := { name := "fnExactFeeSteps", fn := fun _ => fun
  | [d1, d2] => { results := [.lit (.bool true)], args := [d1, d2] }
  | _ => none }
def fnExactFeeStepsRow : OpenClaim := { program := "ytcnhahlpbcflhaa", sum := "19b137f3417fb0524b270de7225c5db03fbc5ed6ea2940d8d220fb68774aed9b", func := "loop.example/parkinghouse/laws.FnExactFeeSteps", spec := "fnExactFeeSteps", apart := false }
def FnExactFeeStepsSaid : Prop := fnExactFeeStepsRow.holds Try.pinned (OpenSpec.ofChange fnExactFeeStepsSpec)

/-- ITS FALSE NEIGHBOUR: 'it returns false'. Refute it at one input. -/
def fnExactFeeStepsWrong : ChangeSpec := { name := "fnExactFeeSteps", fn := fun _ => fun
  | [d1, d2] => { results := [.lit (.bool false)], args := [d1, d2] }
  | _ => none }
def FnExactFeeStepsWrongFalsely : Prop := fnExactFeeStepsRow.holds Try.pinned (OpenSpec.ofChange fnExactFeeStepsWrong)

/-- 'laws.FnExactCoinsValid': WHATEVER THE INPUT: true; the input reads as it did. -/
def fnExactCoinsValidSpec : ChangeSpec := { name := "fnExactCoinsValid", fn := fun _ => fun
  | [d] => { results := [.lit (.bool true)], args := [d] }
  | _ => none }
def fnExactCoinsValidRow : OpenClaim := { program := "ytcnhahlpbcflhaa", sum := "19b137f3417fb0524b270de7225c5db03fbc5ed6ea2940d8d220fb68774aed9b", func := "loop.example/parkinghouse/laws.FnExactCoinsValid", spec := "fnExactCoinsValid", apart := false }
def FnExactCoinsValidSaid : Prop := fnExactCoinsValidRow.holds Try.pinned (OpenSpec.ofChange fnExactCoinsValidSpec)

/-- ITS FALSE NEIGHBOUR: 'it returns false'. Refute it at one input. -/
def fnExactCoinsValidWrong : ChangeSpec := { name := "fnExactCoinsValid", fn := fun _ => fun
  | [d] => { results := [.lit (.bool false)], args := [d] }
  | _ => none }
def FnExactCoinsValidWrongFalsely : Prop := fnExactCoinsValidRow.holds Try.pinned (OpenSpec.ofChange fnExactCoinsValidWrong)

/-- 'laws.FnExactFeeOf': WHATEVER THE INPUT: true; the input reads as it did. -/
def fnExactFeeOfSpec : ChangeSpec := { name := "fnExactFeeOf", fn := fun _ => fun
  | [d1, d2] => { results := [.lit (.bool true)], args := [d1, d2] }
  | _ => none }
def fnExactFeeOfRow : OpenClaim := { program := "ytcnhahlpbcflhaa", sum := "19b137f3417fb0524b270de7225c5db03fbc5ed6ea2940d8d220fb68774aed9b", func := "loop.example/parkinghouse/laws.FnExactFeeOf", spec := "fnExactFeeOf", apart := false }
def FnExactFeeOfSaid : Prop := fnExactFeeOfRow.holds Try.pinned (OpenSpec.ofChange fnExactFeeOfSpec)

/-- ITS FALSE NEIGHBOUR: 'it returns false'. Refute it at one input. -/
def fnExactFeeOfWrong : ChangeSpec := { name := "fnExactFeeOf", fn := fun _ => fun
  | [d1, d2] => { results := [.lit (.bool false)], args := [d1, d2] }
  | _ => none }
def FnExactFeeOfWrongFalsely : Prop := fnExactFeeOfRow.holds Try.pinned (OpenSpec.ofChange fnExactFeeOfWrong)

/-- 'laws.FnExactBooksAt': WHATEVER THE INPUT: true; the input reads as it did. -/
def fnExactBooksAtSpec : ChangeSpec := { name := "fnExactBooksAt", fn := fun _ => fun
  | [d1, d2] => { results := [.lit (.bool true)], args := [d1, d2] }
  | _ => none }
def fnExactBooksAtRow : OpenClaim := { program := "ytcnhahlpbcflhaa", sum := "19b137f3417fb0524b270de7225c5db03fbc5ed6ea2940d8d220fb68774aed9b", func := "loop.example/parkinghouse/laws.FnExactBooksAt", spec := "fnExactBooksAt", apart := false }
def FnExactBooksAtSaid : Prop := fnExactBooksAtRow.holds Try.pinned (OpenSpec.ofChange fnExactBooksAtSpec)

/-- ITS FALSE NEIGHBOUR: 'it returns false'. Refute it at one input. -/
def fnExactBooksAtWrong : ChangeSpec := { name := "fnExactBooksAt", fn := fun _ => fun
  | [d1, d2] => { results := [.lit (.bool false)], args := [d1, d2] }
  | _ => none }
def FnExactBooksAtWrongFalsely : Prop := fnExactBooksAtRow.holds Try.pinned (OpenSpec.ofChange fnExactBooksAtWrong)

/-- 'laws.FnExactCoinSum': WHATEVER THE INPUT: true; the input reads as it did. -/
def fnExactCoinSumSpec : ChangeSpec := { name := "fnExactCoinSum", fn := fun _ => fun
  | [d1, d2] => { results := [.lit (.bool true)], args := [d1, d2] }
  | _ => none }
def fnExactCoinSumRow : OpenClaim := { program := "ytcnhahlpbcflhaa", sum := "19b137f3417fb0524b270de7225c5db03fbc5ed6ea2940d8d220fb68774aed9b", func := "loop.example/parkinghouse/laws.FnExactCoinSum", spec := "fnExactCoinSum", apart := false }
def FnExactCoinSumSaid : Prop := fnExactCoinSumRow.holds Try.pinned (OpenSpec.ofChange fnExactCoinSumSpec)

/-- ITS FALSE NEIGHBOUR: 'it returns false'. Refute it at one input. -/
def fnExactCoinSumWrong : ChangeSpec := { name := "fnExactCoinSum", fn := fun _ => fun
  | [d1, d2] => { results := [.lit (.bool false)], args := [d1, d2] }
  | _ => none }
def FnExactCoinSumWrongFalsely : Prop := fnExactCoinSumRow.holds Try.pinned (OpenSpec.ofChange fnExactCoinSumWrong)

/-- 'laws.FnExactStayDue': WHATEVER THE INPUT: true; the input reads as it did. -/
def fnExactStayDueSpec : ChangeSpec := { name := "fnExactStayDue", fn := fun _ => fun
  | [d1, d2, d3] => { results := [.lit (.bool true)], args := [d1, d2, d3] }
  | _ => none }
def fnExactStayDueRow : OpenClaim := { program := "ytcnhahlpbcflhaa", sum := "19b137f3417fb0524b270de7225c5db03fbc5ed6ea2940d8d220fb68774aed9b", func := "loop.example/parkinghouse/laws.FnExactStayDue", spec := "fnExactStayDue", apart := false }
def FnExactStayDueSaid : Prop := fnExactStayDueRow.holds Try.pinned (OpenSpec.ofChange fnExactStayDueSpec)

/-- ITS FALSE NEIGHBOUR: 'it returns false'. Refute it at one input. -/
def fnExactStayDueWrong : ChangeSpec := { name := "fnExactStayDue", fn := fun _ => fun
  | [d1, d2, d3] => { results := [.lit (.bool false)], args := [d1, d2, d3] }
  | _ => none }
def FnExactStayDueWrongFalsely : Prop := fnExactStayDueRow.holds Try.pinned (OpenSpec.ofChange fnExactStayDueWrong)

/-- 'laws.FnExactFeeLong': WHATEVER THE INPUT: true; the input reads as it did. -/
def fnExactFeeLongSpec : ChangeSpec := { name := "fnExactFeeLong", fn := fun _ => fun
  | [d1, d2] => { results := [.lit (.bool true)], args := [d1, d2] }
  | _ => none }
def fnExactFeeLongRow : OpenClaim := { program := "ytcnhahlpbcflhaa", sum := "19b137f3417fb0524b270de7225c5db03fbc5ed6ea2940d8d220fb68774aed9b", func := "loop.example/parkinghouse/laws.FnExactFeeLong", spec := "fnExactFeeLong", apart := false }
def FnExactFeeLongSaid : Prop := fnExactFeeLongRow.holds Try.pinned (OpenSpec.ofChange fnExactFeeLongSpec)

/-- ITS FALSE NEIGHBOUR: 'it returns false'. Refute it at one input. -/
def fnExactFeeLongWrong : ChangeSpec := { name := "fnExactFeeLong", fn := fun _ => fun
  | [d1, d2] => { results := [.lit (.bool false)], args := [d1, d2] }
  | _ => none }
def FnExactFeeLongWrongFalsely : Prop := fnExactFeeLongRow.holds Try.pinned (OpenSpec.ofChange fnExactFeeLongWrong)

/-- 'laws.FnExactCoinsLeast': WHATEVER THE INPUT: true; the input reads as it did. -/
def fnExactCoinsLeastSpec : ChangeSpec := { name := "fnExactCoinsLeast", fn := fun _ => fun
  | [d1, d2] => { results := [.lit (.bool true)], args := [d1, d2] }
  | _ => none }
def fnExactCoinsLeastRow : OpenClaim := { program := "ytcnhahlpbcflhaa", sum := "19b137f3417fb0524b270de7225c5db03fbc5ed6ea2940d8d220fb68774aed9b", func := "loop.example/parkinghouse/laws.FnExactCoinsLeast", spec := "fnExactCoinsLeast", apart := false }
def FnExactCoinsLeastSaid : Prop := fnExactCoinsLeastRow.holds Try.pinned (OpenSpec.ofChange fnExactCoinsLeastSpec)

/-- ITS FALSE NEIGHBOUR: 'it returns false'. Refute it at one input. -/
def fnExactCoinsLeastWrong : ChangeSpec := { name := "fnExactCoinsLeast", fn := fun _ => fun
  | [d1, d2] => { results := [.lit (.bool false)], args := [d1, d2] }
  | _ => none }
def FnExactCoinsLeastWrongFalsely : Prop := fnExactCoinsLeastRow.holds Try.pinned (OpenSpec.ofChange fnExactCoinsLeastWrong)

/- THE SECOND FORM. 'bulk': how many values and letters a reading holds, each counted each time it is reached (what is shared counts as often as it is met; a slice's spare places count too). A statement '..UptoSaid' is the law's where the arguments, and the package variables that the reading takes, are together of bulk at most 1048576: NARROWER than '..Said'. Prove '..Said' where nothing that the law and all that it calls make is longer than what came in: it says more and counts as full. Else prove '..UptoSaid'. A law counts once. -/
mutual
def uptoBulk {H : Type} : DataW H → Nat
  | .lit (.string bytes) => bytes.length + 1
  | .lit _ => 1
  | .nil => 1
  | .ptr d => uptoBulk d + 1
  | .slice elems spare => uptoBulkAll elems + uptoBulkAll spare + 1
  | .agg parts => uptoBulkAll parts + 1
  | .iface _ d => uptoBulk d + 1
  | .map entries => uptoBulkEntries entries + 1
  | .held _ => 1
def uptoBulkAll {H : Type} : List (DataW H) → Nat
  | [] => 0
  | d :: r => uptoBulk d + uptoBulkAll r
def uptoBulkEntries {H : Type} : List (Lit × DataW H) → Nat
  | [] => 0
  | x :: r => uptoBulkEntry x + uptoBulkEntries r
def uptoBulkEntry {H : Type} : Lit × DataW H → Nat
  | (.string bytes, d) => bytes.length + uptoBulk d + 1
  | (_, d) => uptoBulk d + 1
 end
def uptoSmall : (H : Type) → List (DataW H) → Bool := fun _ ds => decide (uptoBulkAll ds ≤ 1048576)
def OpenSpec.upto (s : _root_.Go.ChangeSpec) : _root_.Go.OpenSpec := { _root_.Go.OpenSpec.ofChange s with cond := some uptoSmall }

/-- 'laws.FnExactOverlap', WHERE WHAT IT READS IS OF BULK AT MOST 1048576: true; the input reads as it did. -/
def fnExactOverlapUptoRow : OpenClaim := { program := "ytcnhahlpbcflhaa", sum := "19b137f3417fb0524b270de7225c5db03fbc5ed6ea2940d8d220fb68774aed9b", func := "loop.example/parkinghouse/laws.FnExactOverlap", spec := "fnExactOverlap", apart := false, narrowed := true }
def FnExactOverlapUptoSaid : Prop := fnExactOverlapUptoRow.holds Try.pinned (OpenSpec.upto fnExactOverlapSpec)

/-- 'laws.FnExactStayValid', WHERE WHAT IT READS IS OF BULK AT MOST 1048576: true; the input reads as it did. -/
def fnExactStayValidUptoRow : OpenClaim := { program := "ytcnhahlpbcflhaa", sum := "19b137f3417fb0524b270de7225c5db03fbc5ed6ea2940d8d220fb68774aed9b", func := "loop.example/parkinghouse/laws.FnExactStayValid", spec := "fnExactStayValid", apart := false, narrowed := true }
def FnExactStayValidUptoSaid : Prop := fnExactStayValidUptoRow.holds Try.pinned (OpenSpec.upto fnExactStayValidSpec)

/-- 'laws.FnExactBookValid', WHERE WHAT IT READS IS OF BULK AT MOST 1048576: true; the input reads as it did. -/
def fnExactBookValidUptoRow : OpenClaim := { program := "ytcnhahlpbcflhaa", sum := "19b137f3417fb0524b270de7225c5db03fbc5ed6ea2940d8d220fb68774aed9b", func := "loop.example/parkinghouse/laws.FnExactBookValid", spec := "fnExactBookValid", apart := false, narrowed := true }
def FnExactBookValidUptoSaid : Prop := fnExactBookValidUptoRow.holds Try.pinned (OpenSpec.upto fnExactBookValidSpec)

/-- 'laws.FnExactTariffValid', WHERE WHAT IT READS IS OF BULK AT MOST 1048576: true; the input reads as it did. -/
def fnExactTariffValidUptoRow : OpenClaim := { program := "ytcnhahlpbcflhaa", sum := "19b137f3417fb0524b270de7225c5db03fbc5ed6ea2940d8d220fb68774aed9b", func := "loop.example/parkinghouse/laws.FnExactTariffValid", spec := "fnExactTariffValid", apart := false, narrowed := true }
def FnExactTariffValidUptoSaid : Prop := fnExactTariffValidUptoRow.holds Try.pinned (OpenSpec.upto fnExactTariffValidSpec)

/-- 'laws.FnExactFeeSteps', WHERE WHAT IT READS IS OF BULK AT MOST 1048576: true; the input reads as it did. -/
def fnExactFeeStepsUptoRow : OpenClaim := { program := "ytcnhahlpbcflhaa", sum := "19b137f3417fb0524b270de7225c5db03fbc5ed6ea2940d8d220fb68774aed9b", func := "loop.example/parkinghouse/laws.FnExactFeeSteps", spec := "fnExactFeeSteps", apart := false, narrowed := true }
def FnExactFeeStepsUptoSaid : Prop := fnExactFeeStepsUptoRow.holds Try.pinned (OpenSpec.upto fnExactFeeStepsSpec)

/-- 'laws.FnExactCoinsValid', WHERE WHAT IT READS IS OF BULK AT MOST 1048576: true; the input reads as it did. -/
def fnExactCoinsValidUptoRow : OpenClaim := { program := "ytcnhahlpbcflhaa", sum := "19b137f3417fb0524b270de7225c5db03fbc5ed6ea2940d8d220fb68774aed9b", func := "loop.example/parkinghouse/laws.FnExactCoinsValid", spec := "fnExactCoinsValid", apart := false, narrowed := true }
def FnExactCoinsValidUptoSaid : Prop := fnExactCoinsValidUptoRow.holds Try.pinned (OpenSpec.upto fnExactCoinsValidSpec)

/-- 'laws.FnExactFeeOf', WHERE WHAT IT READS IS OF BULK AT MOST 1048576: true; the input reads as it did. -/
def fnExactFeeOfUptoRow : OpenClaim := { program := "ytcnhahlpbcflhaa", sum := "19b137f3417fb0524b270de7225c5db03fbc5ed6ea2940d8d220fb68774aed9b", func := "loop.example/parkinghouse/laws.FnExactFeeOf", spec := "fnExactFeeOf", apart := false, narrowed := true }
def FnExactFeeOfUptoSaid : Prop := fnExactFeeOfUptoRow.holds Try.pinned (OpenSpec.upto fnExactFeeOfSpec)

/-- 'laws.FnExactBooksAt', WHERE WHAT IT READS IS OF BULK AT MOST 1048576: true; the input reads as it did. -/
def fnExactBooksAtUptoRow : OpenClaim := { program := "ytcnhahlpbcflhaa", sum := "19b137f3417fb0524b270de7225c5db03fbc5ed6ea2940d8d220fb68774aed9b", func := "loop.example/parkinghouse/laws.FnExactBooksAt", spec := "fnExactBooksAt", apart := false, narrowed := true }
def FnExactBooksAtUptoSaid : Prop := fnExactBooksAtUptoRow.holds Try.pinned (OpenSpec.upto fnExactBooksAtSpec)

/-- 'laws.FnExactCoinSum', WHERE WHAT IT READS IS OF BULK AT MOST 1048576: true; the input reads as it did. -/
def fnExactCoinSumUptoRow : OpenClaim := { program := "ytcnhahlpbcflhaa", sum := "19b137f3417fb0524b270de7225c5db03fbc5ed6ea2940d8d220fb68774aed9b", func := "loop.example/parkinghouse/laws.FnExactCoinSum", spec := "fnExactCoinSum", apart := false, narrowed := true }
def FnExactCoinSumUptoSaid : Prop := fnExactCoinSumUptoRow.holds Try.pinned (OpenSpec.upto fnExactCoinSumSpec)

/-- 'laws.FnExactStayDue', WHERE WHAT IT READS IS OF BULK AT MOST 1048576: true; the input reads as it did. -/
def fnExactStayDueUptoRow : OpenClaim := { program := "ytcnhahlpbcflhaa", sum := "19b137f3417fb0524b270de7225c5db03fbc5ed6ea2940d8d220fb68774aed9b", func := "loop.example/parkinghouse/laws.FnExactStayDue", spec := "fnExactStayDue", apart := false, narrowed := true }
def FnExactStayDueUptoSaid : Prop := fnExactStayDueUptoRow.holds Try.pinned (OpenSpec.upto fnExactStayDueSpec)

/-- 'laws.FnExactFeeLong', WHERE WHAT IT READS IS OF BULK AT MOST 1048576: true; the input reads as it did. -/
def fnExactFeeLongUptoRow : OpenClaim := { program := "ytcnhahlpbcflhaa", sum := "19b137f3417fb0524b270de7225c5db03fbc5ed6ea2940d8d220fb68774aed9b", func := "loop.example/parkinghouse/laws.FnExactFeeLong", spec := "fnExactFeeLong", apart := false, narrowed := true }
def FnExactFeeLongUptoSaid : Prop := fnExactFeeLongUptoRow.holds Try.pinned (OpenSpec.upto fnExactFeeLongSpec)

/-- 'laws.FnExactCoinsLeast', WHERE WHAT IT READS IS OF BULK AT MOST 1048576: true; the input reads as it did. -/
def fnExactCoinsLeastUptoRow : OpenClaim := { program := "ytcnhahlpbcflhaa", sum := "19b137f3417fb0524b270de7225c5db03fbc5ed6ea2940d8d220fb68774aed9b", func := "loop.example/parkinghouse/laws.FnExactCoinsLeast", spec := "fnExactCoinsLeast", apart := false, narrowed := true }
def FnExactCoinsLeastUptoSaid : Prop := fnExactCoinsLeastUptoRow.holds Try.pinned (OpenSpec.upto fnExactCoinsLeastSpec)

end Rows
end Go.Proofs.Ytcnhahlpbcflhaa
