/- Plain laws on fees, stays and payments: what the laws of the table say of the values that the functions compute. No condition. -/
import Derived.Test.YtnagghnmlcnbnaaDoorPay
namespace Go.Proofs.YtnagghnmlcnbnaaDoor
open Go.RowKit
set_option linter.unusedVariables false
theorem fsteps_reach {f s m : Int} (hs : 1 ≤ s) : m ≤ f + fsteps f s m * s ∧ (fsteps f s m = 0 ∨ f + (fsteps f s m - 1) * s < m) := by
  unfold fsteps
  split
  · simp; omega
  · have h1 := Int.mul_ediv_add_emod (m - f + s - 1) s
    have h2 := Int.emod_nonneg (m - f + s - 1) (show s ≠ 0 by omega)
    have h3 := Int.emod_lt_of_pos (m - f + s - 1) (show 0 < s by omega)
    generalize (m - f + s - 1) / s = q at *
    rw [Int.sub_mul, Int.mul_comm q s]
    omega
theorem fee_day (f s p c m : Int) : fee f s p c (m + 1440) = fee f s p c m + c := by
  unfold fee
  rw [show (m + 1440) / 1440 = m / 1440 + 1 by omega, show (m + 1440) % 1440 = m % 1440 by omega, Int.add_mul]
  omega
theorem fee_top (f s p c m : Int) : fee f s p c m ≤ (m / 1440 + 1) * c := by
  unfold fee
  rw [Int.add_mul]
  omega
theorem fdown_fee {f s p c x : Int} (h0 : fee f s p c 0 ≤ x) (n : Nat) : fee f s p c (fdown f s p c x n) ≤ x := by
  induction n with
  | zero => simpa [fdown] using h0
  | succ n ih => unfold fdown; split <;> assumption
theorem fdown_next {f s p c x : Int} (n : Nat) (h : fdown f s p c x n < n) : x < fee f s p c (((fdown f s p c x n : Nat) : Int) + 1) := by
  induction n with
  | zero => omega
  | succ n ih =>
    unfold fdown at h ⊢
    split
    · rename_i h1; rw [if_pos h1] at h; omega
    · rename_i h1
      rw [if_neg h1] at h
      by_cases e : fdown f s p c x n = n
      · rw [e]; rw [show ((n + 1 : Nat) : Int) = (n : Int) + 1 by omega] at h1; omega
      · have := fdown_le f s p c x n
        exact ih (by omega)
theorem due_later {f s p c i q a m : Int} (h : 0 ≤ dueV f s p c i q a m) (hm : m < 9999) : dueV f s p c i q a m ≤ dueV f s p c i q a (m + 1) := by
  obtain ⟨h1, h2, h3, h4⟩ := dueV_nn h
  unfold dueV
  rw [if_pos ⟨h1, h2, h3, h4⟩, if_pos ⟨h1, h2, by omega, by omega⟩]
  have := fee_le (m := m - i) (m' := m + 1 - i) h1 (by omega)
  unfold due
  omega
theorem due_more {f s p c i q a m : Int} (h : 0 ≤ dueV f s p c i q a m) (hq : q < 9999) : dueV f s p c i (q + 1) a m = max (dueV f s p c i q a m - 1) 0 := by
  obtain ⟨h1, h2, h3, h4⟩ := dueV_nn h
  have hs : sv i (q + 1) a = true := by have := sv_bd h2; unfold sv; rw [decide_eq_true_iff]; omega
  unfold dueV
  rw [if_pos ⟨h1, hs, h3, h4⟩, if_pos ⟨h1, h2, h3, h4⟩]
  unfold due
  omega
theorem due_val {f s p c i q a m : Int} (h : 0 ≤ dueV f s p c i q a m) : dueV f s p c i q a m = max (fee f s p c (m - i) - q) 0 ∧ 0 ≤ fee f s p c (m - i) ∧ fee f s p c (m - i) ≤ 693 := by
  obtain ⟨h1, h2, h3, h4⟩ := dueV_nn h
  have b := sv_bd h2
  have g := fee_bd (m := m - i) h1 (by omega) (by omega)
  refine ⟨?_, g⟩
  unfold dueV
  rw [if_pos ⟨h1, h2, h3, h4⟩]
  rfl
theorem ml_zero {f s p c i q a m : Int} (h : dueV f s p c i q a m = 0) : mlV f s p c i q a m = true := by
  unfold mlV; rw [decide_eq_true_iff]; exact ⟨by omega, .inl h⟩
theorem ml_some {f s p c i q a m : Int} (h : mlV f s p c i q a m = true) (hd : 0 < dueV f s p c i q a m) : m - a ≤ 15 ∧ fee f s p c (a - i) ≤ q := by
  unfold mlV at h
  rw [decide_eq_true_iff] at h
  obtain ⟨h1, h2⟩ := h
  rcases h2 with h2 | ⟨h2, h3⟩
  · omega
  · have := due_val (show 0 ≤ dueV f s p c i q a a by omega)
    exact ⟨h2, by omega⟩
theorem ml_neg {f s p c i q a m : Int} (h : dueV f s p c i q a m < 0) : mlV f s p c i q a m = false := by
  unfold mlV; rw [decide_eq_false_iff_not]; rintro ⟨h1, _⟩; omega
/-- when K of what is due was put in, K less is due -/
theorem due_paid {f s p c i q a m K : Int} (h : 0 < dueV f s p c i q a m) (h0 : 0 ≤ K) (h1 : K ≤ dueV f s p c i q a m) : sv i (q + K) m = true ∧ dueV f s p c i (q + K) m m = dueV f s p c i q a m - K := by
  obtain ⟨v1, v2, v3⟩ := due_val (Int.le_of_lt h)
  obtain ⟨g1, g2, g3, g4⟩ := dueV_nn (Int.le_of_lt h)
  have b := sv_bd g2
  have hs : sv i (q + K) m = true := by unfold sv; rw [decide_eq_true_iff]; omega
  refine ⟨hs, ?_⟩
  rw [v1] at h1 ⊢
  unfold dueV
  rw [if_pos ⟨g1, hs, by omega, g4⟩]
  unfold due
  omega
theorem ml_after {f s p c i q a m : Int} (h : 0 < dueV f s p c i q a m) : mlV f s p c i (q + dueV f s p c i q a m) m m = true ∧ (m + 15 ≤ 9999 → mlV f s p c i (q + dueV f s p c i q a m) m (m + 15) = true) := by
  obtain ⟨h1, h2⟩ := due_paid h (Int.le_of_lt h) (Int.le_refl _)
  rw [Int.sub_self] at h2
  refine ⟨ml_zero h2, fun hm => ?_⟩
  obtain ⟨g1, g2, g3, g4⟩ := dueV_nn (Int.le_of_lt h)
  have b := sv_bd h1
  have hn : 0 ≤ dueV f s p c i (q + dueV f s p c i q a m) m (m + 15) := by
    have g := fee_bd (m := m + 15 - i) g1 (by omega) (by omega)
    generalize q + dueV f s p c i q a m = Q at *
    unfold dueV
    rw [if_pos ⟨g1, h1, by omega, hm⟩]
    unfold due
    omega
  unfold mlV
  rw [decide_eq_true_iff]
  exact ⟨hn, .inr ⟨by omega, h2⟩⟩
theorem pay_due {f s p c i q a m : Int} (h : 0 < dueV f s p c i q a m) (h1 : dueV f s p c i q a m ≤ 300) : payV f s p c i q a m (dueV f s p c i q a m) = ⟨i, q + dueV f s p c i q a m, m, 0, true⟩ := by
  unfold payV
  rw [if_neg (by omega), if_neg (by omega)]
  congr 1 <;> omega
theorem pay_cases (f s p c i q a m x : Int) : (∃ u v w', payV f s p c i q a m x = ⟨u, v, w', x, false⟩) ∨ (∃ K, 0 < K ∧ K ≤ x ∧ 1 ≤ x ∧ x ≤ 300 ∧ K ≤ dueV f s p c i q a m ∧ payV f s p c i q a m x = ⟨i, q + K, m, x - K, true⟩) := by
  unfold payV
  split
  · exact .inl ⟨_, _, _, rfl⟩
  · split
    · exact .inl ⟨_, _, _, rfl⟩
    · exact .inr ⟨min x (dueV f s p c i q a m), by omega, by omega, by omega, by omega, by omega, rfl⟩
theorem pay_none {f s p c i q a m : Int} (h : dueV f s p c i q a m = 0) : payV f s p c i q a m 1 = ⟨i, q, a, 1, false⟩ := by
  unfold payV
  rw [if_neg (by omega), if_pos h]
end Go.Proofs.YtnagghnmlcnbnaaDoor
