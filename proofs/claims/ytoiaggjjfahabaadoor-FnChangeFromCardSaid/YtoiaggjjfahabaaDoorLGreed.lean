/- The walks of laws.FnCoinsGreedy and laws.FnGreedySafe. No condition. -/
import Derived.Test.YtoiaggjjfahabaaDoorIS
import Derived.Test.YtoiaggjjfahabaaDoorSumEq
import Derived.Test.YtoiaggjjfahabaaDoorPGreed
import Derived.Test.YtoiaggjjfahabaaDoorCSum
import Derived.Test.YtoiaggjjfahabaaDoorQS
import Derived.Test.YtoiaggjjfahabaaDoorAliveL
namespace Go.Proofs.YtoiaggjjfahabaaDoor
open Go.RowKit
set_option linter.unusedVariables false
theorem eqL_self (xs : List Int) : eqL xs xs = true := by simp [eqL]
theorem tot_suT (xs : List Int) (k : Nat) : totL xs k = suT xs k := by
  induction k with
  | zero => rfl
  | succ k ih => unfold totL suT; rw [ih, List.getD_eq_getElem?_getD]
theorem gV_sm (qs : List Int) (a : Int) (i : Nat) : -1000000 ≤ (gV qs a).getD i 0 ∧ (gV qs a).getD i 0 ≤ 1000000 := by
  have := gV_at qs a i
  rw [List.getD_eq_getElem?_getD]; omega
end Go.Proofs.YtoiaggjjfahabaaDoor
