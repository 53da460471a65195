/- The reference's Enough: what it computes. Conditions: the needs' numbers are small, at most 1000 of them. -/
import Derived.Test.YtoiaggjjfahabaaDoorChg8
namespace Go.Proofs.YtoiaggjjfahabaaDoor
open Go.RowKit
set_option linter.unusedVariables false
def SmD (qs : List Quad) : Prop := ∀ i, -1000000 ≤ (qs.getD i q0).d ∧ (qs.getD i q0).d ≤ 1000000
theorem sumL_sd {qs : List Quad} (h : SmD qs) (k : Nat) (hk : k ≤ qs.length) : -1000000 * k ≤ sumL (usL qs) k ∧ sumL (usL qs) k ≤ 1000000 * k := by
  induction k with
  | zero => simp [sumL]
  | succ k ih =>
    have := ih (by omega)
    have hb := h k
    have e : sumL (usL qs) (k + 1) = sumL (usL qs) k + (usL qs).getD k 0 := rfl
    rw [e, usL_at (by omega)]
    omega
end Go.Proofs.YtoiaggjjfahabaaDoor
