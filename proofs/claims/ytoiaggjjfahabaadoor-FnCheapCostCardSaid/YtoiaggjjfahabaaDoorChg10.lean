/- PlanValid: what it computes. Conditions: the plan's numbers are small, at most 1000 rows. -/
import Derived.Test.YtoiaggjjfahabaaDoorPChg
import Derived.Test.YtoiaggjjfahabaaDoorChg5
import Derived.Deep.RegionLaw
namespace Go.Proofs.YtoiaggjjfahabaaDoor
open Go.RowKit
set_option linter.unusedVariables false
def rowOk (qs : List Quad) (p : List (List Int)) (k : Nat) : Prop := (p.getD k []).length = 6 ∧ (∀ j, j < 6 → 0 ≤ (p.getD k []).getD j 0 ∧ (p.getD k []).getD j 0 ≤ ((rssL qs).getD k []).getD j 0) ∧ sumL (p.getD k []) 6 ≤ (usL qs).getD k 0
def pvP (qs : List Quad) (cs : List Int) (p : List (List Int)) : Prop := nsV qs = true ∧ fvV cs = true ∧ p.length = qs.length ∧ (∀ k, k < qs.length → rowOk qs p k) ∧ ∀ j, j < 6 → loadL p j qs.length ≤ cs.getD j 0
noncomputable def pvV (qs : List Quad) (cs : List Int) (p : List (List Int)) : Bool := @decide (pvP qs cs p) (Classical.propDecidable _)
theorem pvV_yes {qs : List Quad} {cs : List Int} {p : List (List Int)} : pvV qs cs p = true ↔ (nsV qs = true ∧ fvV cs = true ∧ p.length = qs.length ∧ (∀ k, k < qs.length → rowOk qs p k) ∧ ∀ j, j < 6 → loadL p j qs.length ≤ cs.getD j 0) := by
  unfold pvV; exact @decide_eq_true_iff (pvP qs cs p) (Classical.propDecidable _)
theorem pvV_row {qs : List Quad} {cs : List Int} {p : List (List Int)} (k : Nat) (hk : k < qs.length) (h : ¬ rowOk qs p k) : pvV qs cs p = false := by
  unfold pvV; rw [decide_eq_false_iff_not]; rintro ⟨_, _, _, g, _⟩; exact h (g k hk)
theorem pvV_load {qs : List Quad} {cs : List Int} {p : List (List Int)} (j : Nat) (hj : j < 6) (h : ¬ loadL p j qs.length ≤ cs.getD j 0) : pvV qs cs p = false := by
  unfold pvV; rw [decide_eq_false_iff_not]; rintro ⟨_, _, _, _, g⟩; exact h (g j hj)
end Go.Proofs.YtoiaggjjfahabaaDoor
