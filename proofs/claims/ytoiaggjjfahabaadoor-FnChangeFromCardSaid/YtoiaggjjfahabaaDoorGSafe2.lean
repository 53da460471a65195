/- GreedySafe: what it computes, of the program and of the reference. No condition but the length. -/
import Derived.Test.YtoiaggjjfahabaaDoorMark
import Derived.Test.YtoiaggjjfahabaaDoorLeast
namespace Go.Proofs.YtoiaggjjfahabaaDoor
open Go.RowKit

def sumTo (xs : List Int) : Nat → Int
  | 0 => 0
  | k + 1 => sumTo xs k + xs[k]?.getD 0
def gSum (zs : List Int) (a : Int) : Int := sumTo (gV zs a) (gV zs a).length
def gsEnd (zs : List Int) : Int := zs[zs.length - 1]?.getD 0 + zs[zs.length - 2]?.getD 0
def gsAt (zs : List Int) (a : Nat) : Prop := gSum zs a = leastV zs a
instance (zs : List Int) (a : Nat) : Decidable (gsAt zs a) := by unfold gsAt; infer_instance
def gsV (zs : List Int) : Bool := decide (cv zs = true ∧ zs[0]?.getD 0 = 1 ∧ ∀ a, a < (gsEnd zs).toNat → gsAt zs a)
theorem gV_at (zs : List Int) (a : Int) (i : Nat) : 0 ≤ (gV zs a)[i]?.getD 0 ∧ (gV zs a)[i]?.getD 0 ≤ 300 := by
  unfold gV
  split
  · rename_i h
    unfold gOk at h
    rw [decide_eq_true_iff] at h
    obtain ⟨v1, v2, v3⟩ := cv_at h.1
    by_cases hi : i < zs.length
    · rw [gm_at zs a i hi, Option.getD_some]
      have b1 := gl_bd zs a h.2.1 h.2.2.1 v3 (zs.length - 1 - i) (by omega)
      have b2 := v3 i hi
      exact ⟨Int.ediv_nonneg b1.1 (by omega), Int.le_trans (Int.ediv_le_self _ b1.1) b1.2⟩
    · rw [List.getElem?_eq_none (by rw [gm_len]; omega)]; simp
  · simp
theorem sumTo_bd (xs : List Int) (h : ∀ i : Nat, 0 ≤ xs[i]?.getD 0 ∧ xs[i]?.getD 0 ≤ 300) (k : Nat) : 0 ≤ sumTo xs k ∧ sumTo xs k ≤ 300 * k := by
  induction k with
  | zero => simp [sumTo]
  | succ k ih => have := h k; unfold sumTo; omega
theorem gV_len5 (zs : List Int) (a : Int) : (gV zs a).length ≤ 5 := by
  unfold gV
  split
  · rename_i h
    unfold gOk at h
    rw [decide_eq_true_iff] at h
    rw [gm_len]; exact (cv_at h.1).2.1
  · simp
theorem gsV_no {zs : List Int} (a : Nat) (ha : (a : Int) < gsEnd zs) (h : ¬ gSum zs a = leastV zs a) : gsV zs = false := by
  unfold gsV; rw [decide_eq_false_iff_not]; rintro ⟨_, _, g⟩; exact h (g a (by omega))
end Go.Proofs.YtoiaggjjfahabaaDoor
