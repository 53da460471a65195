/- CoinsFor of the reference: what it computes. Conditions: the list's length. -/
import Derived.Test.YtoiaggjjfahabaaDoorCSpec
namespace Go.Proofs.YtoiaggjjfahabaaDoor
open Go.RowKit
set_option linter.unusedVariables false
theorem cf_case {zs : List Int} {m : Int} (h : cfH zs m) : leastV zs m = cost (fz zs) s300 zs.length m.toNat := by
  obtain ⟨hv, h0, h1⟩ := h
  have := least_cost hv (a := m.toNat) (by omega)
  rwa [show ((m.toNat : Nat) : Int) = m by omega] at this
end Go.Proofs.YtoiaggjjfahabaaDoor
