/- Plain laws on fees, stays and payments: what the laws of the table say of the values that the functions compute. No condition. -/
import Derived.Test.YtolnjpnaoeeanaaDoorPay
namespace Go.Proofs.YtolnjpnaoeeanaaDoor
open Go.RowKit
set_option linter.unusedVariables false
theorem fsteps_reach {f s m : Int} (hs : 1 ≤ s) : m ≤ f + fsteps f s m * s ∧ (fsteps f s m = 0 ∨ f + (fsteps f s m - 1) * s < m) := by
  unfold fsteps
  split
  · simp; omega
  · have h1 := Int.mul_ediv_add_emod (m - f + s - 1) s
    have h2 := Int.emod_nonneg (m - f + s - 1) (show s ≠ 0 by omega)
    have h3 := Int.emod_lt_of_pos (m - f + s - 1) (show 0 < s by omega)
    generalize (m - f + s - 1) / s = q at *
    rw [Int.sub_mul, Int.mul_comm q s]
    omega
theorem fee_day (f s p c m : Int) : fee f s p c (m + 1440) = fee f s p c m + c := by
  unfold fee
  rw [show (m + 1440) / 1440 = m / 1440 + 1 by omega, show (m + 1440) % 1440 = m % 1440 by omega, Int.add_mul]
  omega
theorem fee_top (f s p c m : Int) : fee f s p c m ≤ (m / 1440 + 1) * c := by
  unfold fee
  rw [Int.add_mul]
  omega
theorem fdown_fee {f s p c x : Int} (h0 : fee f s p c 0 ≤ x) (n : Nat) : fee f s p c (fdown f s p c x n) ≤ x := by
  induction n with
  | zero => simpa [fdown] using h0
  | succ n ih => unfold fdown; split <;> assumption
theorem fdown_next {f s p c x : Int} (n : Nat) (h : fdown f s p c x n < n) : x < fee f s p c (((fdown f s p c x n : Nat) : Int) + 1) := by
  induction n with
  | zero => omega
  | succ n ih =>
    unfold fdown at h ⊢
    split
    · rename_i h1; rw [if_pos h1] at h; omega
    · rename_i h1
      rw [if_neg h1] at h
      by_cases e : fdown f s p c x n = n
      · rw [e]; rw [show ((n + 1 : Nat) : Int) = (n : Int) + 1 by omega] at h1; omega
      · have := fdown_le f s p c x n
        exact ih (by omega)
theorem due_later {f s p c i q a m : Int} (h : 0 ≤ dueV f s p c i q a m) (hm : m < 9999) : dueV f s p c i q a m ≤ dueV f s p c i q a (m + 1) := by
  obtain ⟨h1, h2, h3, h4⟩ := dueV_nn h
  unfold dueV
  rw [if_pos ⟨h1, h2, h3, h4⟩, if_pos ⟨h1, h2, by omega, by omega⟩]
  have := fee_le (m := m - i) (m' := m + 1 - i) h1 (by omega)
  unfold due
  omega
theorem due_more {f s p c i q a m : Int} (h : 0 ≤ dueV f s p c i q a m) (hq : q < 9999) : dueV f s p c i (q + 1) a m = max (dueV f s p c i q a m - 1) 0 := by
  obtain ⟨h1, h2, h3, h4⟩ := dueV_nn h
  have hs : sv i (q + 1) a = true := by have := sv_bd h2; unfold sv; rw [decide_eq_true_iff]; omega
  unfold dueV
  rw [if_pos ⟨h1, hs, h3, h4⟩, if_pos ⟨h1, h2, h3, h4⟩]
  unfold due
  omega
end Go.Proofs.YtolnjpnaoeeanaaDoor
