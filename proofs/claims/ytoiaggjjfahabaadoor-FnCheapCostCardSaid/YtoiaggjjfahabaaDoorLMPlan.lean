/- The walk of laws.FnMostPlan. No condition. -/
import Derived.Test.YtoiaggjjfahabaaDoorLMostU
import Derived.Test.YtoiaggjjfahabaaDoorChg15
import Derived.Test.YtoiaggjjfahabaaDoorChg19
namespace Go.Proofs.YtoiaggjjfahabaaDoor
open Go.RowKit
set_option linter.unusedVariables false
theorem mp_len {qs : List Quad} {cs : List Int} (k : Nat) : ((mpV qs cs).getD k []).length ≤ 1000 := by
  by_cases h : nsV qs = true ∧ fvV cs = true
  · obtain ⟨P, pl, ps, p6, pa⟩ := mp_good h.1 h.2
    rcases Nat.lt_or_ge k qs.length with g | g
    · rw [p6 k g]; omega
    · rw [getD_hi _ _ _ (by rw [pl]; exact g)]; simp
  · unfold mpV; rw [if_neg h]; simp
theorem mp_le {qs : List Quad} {cs : List Int} : (mpV qs cs).length ≤ 5 := by
  by_cases h : nsV qs = true ∧ fvV cs = true
  · rw [mpV_len h.1 h.2]; exact (ns_at h.1).1
  · unfold mpV; rw [if_neg h]; simp
end Go.Proofs.YtoiaggjjfahabaaDoor
