/- What a valid desk is. No program in sight. -/
import Derived.Test.YtoiaggjjfahabaaDkN
namespace Go.Proofs.Ytoiaggjjfahabaa
open Go.RowKit
set_option linter.unusedVariables false
/-- the booking at place j of the row may stand there -/
def rowOkD (P : Int) (ts rs : List Quad) (j : Nat) : Prop :=
  bv (rs.getD j q0).a (rs.getD j q0).b (rs.getD j q0).c (rs.getD j q0).d = true ∧ fnd rs (rs.getD j q0).a j = -1 ∧ fnd ts (rs.getD j q0).a ts.length = -1 ∧ ctV P ts (rs.getD j q0) = false
instance (P : Int) (ts rs : List Quad) (j : Nat) : Decidable (rowOkD P ts rs j) := by unfold rowOkD; infer_instance
/-- the first tests -/
def dhV (P : Int) (ts rs : List Quad) : Bool := decide (1 ≤ P ∧ P ≤ 7) && bsV ts && decide (bmV ts ≤ P) && decide (rs.length ≤ 5)
/-- ids ascend -/
def ascD (ts : List Quad) (n : Nat) : Prop := ∀ i, i + 1 < n → (ts.getD i q0).a < (ts.getD (i + 1) q0).a
instance (ts : List Quad) (n : Nat) : Decidable (ascD ts n) :=
  decidable_of_iff (∀ i, i < n → i + 1 < n → (ts.getD i q0).a < (ts.getD (i + 1) q0).a) ⟨fun h i hi => h i (by omega) hi, fun h i _ hi => h i hi⟩
def dvV (P : Int) (ts rs : List Quad) : Bool := dhV P ts rs && decide (ascD ts ts.length ∧ ∀ j, j < rs.length → rowOkD P ts rs j)
theorem dv_head {P : Int} {ts rs : List Quad} (h : dhV P ts rs = false) : dvV P ts rs = false := by unfold dvV; rw [h, Bool.false_and]
theorem dv_asc {P : Int} {ts rs : List Quad} {i : Nat} (hi : i + 1 < ts.length) (h : ¬ (ts.getD i q0).a < (ts.getD (i + 1) q0).a) : dvV P ts rs = false := by
  unfold dvV
  rw [Bool.and_eq_false_iff]; right
  rw [decide_eq_false_iff_not]; exact fun g => h (g.1 i hi)
theorem dv_row {P : Int} {ts rs : List Quad} {j : Nat} (hj : j < rs.length) (h : ¬ rowOkD P ts rs j) : dvV P ts rs = false := by
  unfold dvV
  rw [Bool.and_eq_false_iff]; right
  rw [decide_eq_false_iff_not]; exact fun g => h (g.2 j hj)
theorem dv_yes {P : Int} {ts rs : List Quad} (h : dhV P ts rs = true) (ha : ascD ts ts.length) (hr : ∀ j, j < rs.length → rowOkD P ts rs j) : dvV P ts rs = true := by
  unfold dvV; rw [h, Bool.true_and]; exact decide_eq_true ⟨ha, hr⟩
theorem asc_next {ts : List Quad} {k : Nat} (h : ascD ts k) (hk : (ts.getD (k - 1) q0).a < (ts.getD k q0).a) : ascD ts (k + 1) := fun i hi => by
  rcases Nat.lt_or_ge (i + 1) k with q | q
  · exact h i q
  · have e : i + 1 = k := by omega
    rw [e]
    rwa [show k - 1 = i by omega] at hk
theorem asc_one (ts : List Quad) (k : Nat) (h : k ≤ 1) : ascD ts k := fun i hi => absurd hi (by omega)
/-- distinct ids: not descending is ascending -/
theorem bs_ne {ts : List Quad} (h : bsV ts = true) {i j : Nat} (hij : i < j) (hj : j < ts.length) : (ts.getD i q0).a ≠ (ts.getD j q0).a := by
  have h2 := ((bsV_iff0 ts).1 h).2.2
  rw [List.pairwise_iff_getElem] at h2
  rw [getD_get0 ts i (by omega), getD_get0 ts j hj]
  exact h2 i j (by omega) hj hij
/-- found before place j, in the whole row -/
theorem fnd_lt (rs : List Quad) (j : Nat) (hj : j < rs.length) : (fnd rs (rs.getD j q0).a rs.length < j) ↔ fnd rs (rs.getD j q0).a j ≠ -1 := by
  have hb := fnd_bd rs (rs.getD j q0).a j
  constructor
  · intro h e
    rw [fnd_hit rs _ j rs.length hj e rfl] at h; omega
  · intro h
    have e := fnd_more rs (rs.getD j q0).a j (rs.length - j) (by omega)
    rw [show j + (rs.length - j) = rs.length by omega] at e
    rw [e]; exact hb.2
end Go.Proofs.Ytoiaggjjfahabaa
