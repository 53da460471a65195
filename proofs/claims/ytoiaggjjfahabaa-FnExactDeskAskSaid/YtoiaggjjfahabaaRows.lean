/-
  No cell of these rows narrows 'for every input' (looked for: loops, veiled, ifaces, maps, wideKeys, modest, calm, conditions, laid).
  DERIVED. THE GIVEN ROWS OF THIS SEAT. 3 by the template 'for every input the law returns true; each argument reads behind the call as it read before'; 0 by the template 'total and deterministic' (their statements: YtoiaggjjfahabaaTotals.lean).
  GIVEN WITH THE SEED: the statements are not yours to turn. If you find one false, say at which input.
  Laid BY PROGRAM, IN A SANDBOX (cutbox-rows.mjs): the forced cells as the released guide's own fill.sh prints them over the translation 7e6071af34435a02… (all of the seat's roots in one cut). By AI agents, Wed Nov 11 2026. No macro, syntax, notation, axiom, sorry.
-/
import Derived.Test.YtoiaggjjfahabaaChecked
import GoSem.Claim
import GoSem.ClaimJoined
import GoSem.ClaimMapViews
import Derived.JoinedTies
import Derived.KernelRfl
namespace Go.Proofs.Ytoiaggjjfahabaa
/- THE CELL 'sum', in the pinned program and in every row, IS THE sha256 OF THE DUMP (.gsa) THAT YtoiaggjjfahabaaProg.lean LOADS. Nothing in Lean hashes anything: it is a label: what it is worth is what the hold of that sum in a sandbox is worth. -/
noncomputable def Try.pinned : Pinned := { name := "ytoiaggjjfahabaa", sum := "7e6071af34435a0238c71c37550b3f46e6033c537e6e330371529b612b81979e", checked := Try.checked }
namespace Rows
def none {H : Type} : Left H := { results := [], args := [] }

/-- 'laws.FnExactBookPlaces': WHATEVER THE INPUT: true; the input reads as it did. -/
def fnExactBookPlacesSpec : ChangeSpec := { name := "fnExactBookPlaces", fn := fun _ => fun
  | [d] => { results := [.lit (.bool true)], args := [d] }
  | _ => none }
def fnExactBookPlacesRow : OpenClaim := { program := "ytoiaggjjfahabaa", sum := "7e6071af34435a0238c71c37550b3f46e6033c537e6e330371529b612b81979e", func := "loop.example/parkinghouse/laws.FnExactBookPlaces", spec := "fnExactBookPlaces", unfollowed := true, recurses := true, apart := false }
def FnExactBookPlacesSaid : Prop := fnExactBookPlacesRow.holds Try.pinned (OpenSpec.ofChange fnExactBookPlacesSpec)

/-- ITS FALSE NEIGHBOUR: 'it returns false'. Refute it at one input. -/
def fnExactBookPlacesWrong : ChangeSpec := { name := "fnExactBookPlaces", fn := fun _ => fun
  | [d] => { results := [.lit (.bool false)], args := [d] }
  | _ => none }
def FnExactBookPlacesWrongFalsely : Prop := fnExactBookPlacesRow.holds Try.pinned (OpenSpec.ofChange fnExactBookPlacesWrong)

/-- 'laws.FnExactDeskValid': WHATEVER THE INPUT: true; the input reads as it did. -/
def fnExactDeskValidSpec : ChangeSpec := { name := "fnExactDeskValid", fn := fun _ => fun
  | [d] => { results := [.lit (.bool true)], args := [d] }
  | _ => none }
def fnExactDeskValidRow : OpenClaim := { program := "ytoiaggjjfahabaa", sum := "7e6071af34435a0238c71c37550b3f46e6033c537e6e330371529b612b81979e", func := "loop.example/parkinghouse/laws.FnExactDeskValid", spec := "fnExactDeskValid", unfollowed := true, recurses := true, apart := false }
def FnExactDeskValidSaid : Prop := fnExactDeskValidRow.holds Try.pinned (OpenSpec.ofChange fnExactDeskValidSpec)

/-- ITS FALSE NEIGHBOUR: 'it returns false'. Refute it at one input. -/
def fnExactDeskValidWrong : ChangeSpec := { name := "fnExactDeskValid", fn := fun _ => fun
  | [d] => { results := [.lit (.bool false)], args := [d] }
  | _ => none }
def FnExactDeskValidWrongFalsely : Prop := fnExactDeskValidRow.holds Try.pinned (OpenSpec.ofChange fnExactDeskValidWrong)

/-- 'laws.FnExactDeskAsk': WHATEVER THE INPUT: true; the input reads as it did. -/
def fnExactDeskAskSpec : ChangeSpec := { name := "fnExactDeskAsk", fn := fun _ => fun
  | [d1, d2] => { results := [.lit (.bool true)], args := [d1, d2] }
  | _ => none }
def fnExactDeskAskRow : OpenClaim := { program := "ytoiaggjjfahabaa", sum := "7e6071af34435a0238c71c37550b3f46e6033c537e6e330371529b612b81979e", func := "loop.example/parkinghouse/laws.FnExactDeskAsk", spec := "fnExactDeskAsk", unfollowed := true, recurses := true, apart := false }
def FnExactDeskAskSaid : Prop := fnExactDeskAskRow.holds Try.pinned (OpenSpec.ofChange fnExactDeskAskSpec)

/-- ITS FALSE NEIGHBOUR: 'it returns false'. Refute it at one input. -/
def fnExactDeskAskWrong : ChangeSpec := { name := "fnExactDeskAsk", fn := fun _ => fun
  | [d1, d2] => { results := [.lit (.bool false)], args := [d1, d2] }
  | _ => none }
def FnExactDeskAskWrongFalsely : Prop := fnExactDeskAskRow.holds Try.pinned (OpenSpec.ofChange fnExactDeskAskWrong)

/- THE SECOND FORM. 'bulk': how many values and letters a reading holds, each counted each time it is reached (what is shared counts as often as it is met; a slice's spare places count too). A statement '..UptoSaid' is the law's where the arguments, and the package variables that the reading takes, are together of bulk at most 1048576: NARROWER than '..Said'. Prove '..Said' where nothing that the law and all that it calls make is longer than what came in: it says more and counts as full. Else prove '..UptoSaid'. A law counts once. -/
mutual
def uptoBulk {H : Type} : DataW H → Nat
  | .lit (.string bytes) => bytes.length + 1
  | .lit _ => 1
  | .nil => 1
  | .ptr d => uptoBulk d + 1
  | .slice elems spare => uptoBulkAll elems + uptoBulkAll spare + 1
  | .agg parts => uptoBulkAll parts + 1
  | .iface _ d => uptoBulk d + 1
  | .map entries => uptoBulkEntries entries + 1
  | .held _ => 1
def uptoBulkAll {H : Type} : List (DataW H) → Nat
  | [] => 0
  | d :: r => uptoBulk d + uptoBulkAll r
def uptoBulkEntries {H : Type} : List (Lit × DataW H) → Nat
  | [] => 0
  | x :: r => uptoBulkEntry x + uptoBulkEntries r
def uptoBulkEntry {H : Type} : Lit × DataW H → Nat
  | (.string bytes, d) => bytes.length + uptoBulk d + 1
  | (_, d) => uptoBulk d + 1
 end
def uptoSmall : (H : Type) → List (DataW H) → Bool := fun _ ds => decide (uptoBulkAll ds ≤ 1048576)
def OpenSpec.upto (s : _root_.Go.ChangeSpec) : _root_.Go.OpenSpec := { _root_.Go.OpenSpec.ofChange s with cond := some uptoSmall }

/-- 'laws.FnExactBookPlaces', WHERE WHAT IT READS IS OF BULK AT MOST 1048576: true; the input reads as it did. -/
def fnExactBookPlacesUptoRow : OpenClaim := { program := "ytoiaggjjfahabaa", sum := "7e6071af34435a0238c71c37550b3f46e6033c537e6e330371529b612b81979e", func := "loop.example/parkinghouse/laws.FnExactBookPlaces", spec := "fnExactBookPlaces", unfollowed := true, recurses := true, apart := false, narrowed := true }
def FnExactBookPlacesUptoSaid : Prop := fnExactBookPlacesUptoRow.holds Try.pinned (OpenSpec.upto fnExactBookPlacesSpec)

/-- 'laws.FnExactDeskValid', WHERE WHAT IT READS IS OF BULK AT MOST 1048576: true; the input reads as it did. -/
def fnExactDeskValidUptoRow : OpenClaim := { program := "ytoiaggjjfahabaa", sum := "7e6071af34435a0238c71c37550b3f46e6033c537e6e330371529b612b81979e", func := "loop.example/parkinghouse/laws.FnExactDeskValid", spec := "fnExactDeskValid", unfollowed := true, recurses := true, apart := false, narrowed := true }
def FnExactDeskValidUptoSaid : Prop := fnExactDeskValidUptoRow.holds Try.pinned (OpenSpec.upto fnExactDeskValidSpec)

/-- 'laws.FnExactDeskAsk', WHERE WHAT IT READS IS OF BULK AT MOST 1048576: true; the input reads as it did. -/
def fnExactDeskAskUptoRow : OpenClaim := { program := "ytoiaggjjfahabaa", sum := "7e6071af34435a0238c71c37550b3f46e6033c537e6e330371529b612b81979e", func := "loop.example/parkinghouse/laws.FnExactDeskAsk", spec := "fnExactDeskAsk", unfollowed := true, recurses := true, apart := false, narrowed := true }
def FnExactDeskAskUptoSaid : Prop := fnExactDeskAskUptoRow.holds Try.pinned (OpenSpec.upto fnExactDeskAskSpec)

end Rows
end Go.Proofs.Ytoiaggjjfahabaa
