/- Plain: sums of coins of the first k kinds; the least number of coins. No program. -/
import Derived.Test.YtoiaggjjfahabaaDoorBase
namespace Go.Proofs.YtoiaggjjfahabaaDoor
set_option linter.unusedVariables false
/-- s is made of n coins of the first k kinds -/
def Sol (z : Nat → Nat) : Nat → Nat → Nat → Prop
  | 0, s, n => s = 0 ∧ n = 0
  | k + 1, s, n => ∃ m, m ≤ n ∧ m * z k ≤ s ∧ Sol z k (s - m * z k) (n - m)
theorem Sol.zero (z : Nat → Nat) (k : Nat) : Sol z k 0 0 := by
  induction k with
  | zero => exact ⟨rfl, rfl⟩
  | succ k ih => exact ⟨0, by omega, by omega, by simpa using ih⟩
theorem Sol.up {z : Nat → Nat} {k s n : Nat} (h : Sol z k s n) : Sol z (k + 1) s n := ⟨0, by omega, by omega, by simpa using h⟩
theorem Sol.ups {z : Nat → Nat} {k s n : Nat} (h : Sol z k s n) (d : Nat) : Sol z (k + d) s n := by
  induction d with
  | zero => exact h
  | succ d ih => exact ih.up
theorem Sol.mono {z : Nat → Nat} {k k' s n : Nat} (h : Sol z k s n) (hk : k ≤ k') : Sol z k' s n := by
  have := h.ups (k' - k)
  rwa [show k + (k' - k) = k' by omega] at this
theorem Sol.top {z : Nat → Nat} {k s n : Nat} (h : Sol z (k + 1) s n) : Sol z (k + 1) (s + z k) (n + 1) := by
  obtain ⟨m, h1, h2, h3⟩ := h
  refine ⟨m + 1, by omega, by rw [Nat.add_mul]; omega, ?_⟩
  rw [show s + z k - (m + 1) * z k = s - m * z k by rw [Nat.add_mul]; omega, show n + 1 - (m + 1) = n - m by omega]
  exact h3
theorem Sol.add {z : Nat → Nat} {k s n j : Nat} (hj : j < k) (h : Sol z k s n) : Sol z k (s + z j) (n + 1) := by
  induction k generalizing s n with
  | zero => omega
  | succ k ih =>
    by_cases e : j = k
    · subst e; exact h.top
    · obtain ⟨m, h1, h2, h3⟩ := h
      have := ih (by omega) h3
      refine ⟨m, by omega, by omega, ?_⟩
      rw [show s + z j - m * z k = s - m * z k + z j by omega, show n + 1 - m = n - m + 1 by omega]
      exact this
/-- a sum of coins uses a kind from j on, or none -/
theorem Sol.parts {z : Nat → Nat} {k s n : Nat} (j : Nat) (hj : j ≤ k) (h : Sol z k s n) : Sol z j s n ∨ ∃ i, j ≤ i ∧ i < k ∧ z i ≤ s ∧ 0 < n ∧ Sol z k (s - z i) (n - 1) := by
  induction k generalizing s n with
  | zero => exact .inl (by rw [show j = 0 by omega]; exact h)
  | succ k ih =>
    by_cases e : j = k + 1
    · subst e; exact .inl h
    · obtain ⟨m, h1, h2, h3⟩ := h
      by_cases hm : m = 0
      · subst hm
        simp at h3
        rcases ih (by omega) h3 with h | ⟨i, a, b, c, d, f⟩
        · exact .inl h
        · exact .inr ⟨i, a, by omega, c, d, f.up⟩
      · have e1 : m * z k = (m - 1) * z k + z k := by rw [← Nat.succ_mul]; congr 1; omega
        refine .inr ⟨k, by omega, by omega, by omega, by omega, m - 1, by omega, by omega, ?_⟩
        rw [show s - z k - (m - 1) * z k = s - m * z k by omega, show n - 1 - (m - 1) = n - m by omega]
        exact h3
/-- the least number of coins of the first k kinds that make s is x; -1: there are none -/
def Least (z : Nat → Nat) (k s : Nat) (x : Int) : Prop := (x = -1 ∧ ∀ n, ¬ Sol z k s n) ∨ (∃ n : Nat, x = n ∧ Sol z k s n ∧ ∀ n', Sol z k s n' → n ≤ n')
theorem Least.uniq {z : Nat → Nat} {k s : Nat} {x y : Int} (h : Least z k s x) (h' : Least z k s y) : x = y := by
  rcases h with ⟨rfl, h⟩ | ⟨n, rfl, h1, h2⟩ <;> rcases h' with ⟨rfl, g⟩ | ⟨m, rfl, g1, g2⟩
  · rfl
  · exact absurd g1 (h _)
  · exact absurd h1 (g _)
  · have := h2 _ g1; have := g2 _ h1; omega
theorem Least.zero (z : Nat → Nat) (k : Nat) : Least z k 0 0 := .inr ⟨0, rfl, Sol.zero z k, fun _ _ => Nat.zero_le _⟩
theorem Sol.pos {z : Nat → Nat} {k s n : Nat} (h : Sol z k s n) (hs : 0 < s) : 0 < n := by
  rcases h.parts 0 (by omega) with h | ⟨_, _, _, _, h, _⟩
  · exact absurd h.1 (by omega)
  · exact h
/-- one step: the least for s is one more than the least of the leasts for s less one coin -/
theorem Least.step {z : Nat → Nat} {k s : Nat} (hs : 0 < s) {x : Int} (T : Nat → Int) (hT : ∀ j, j < k → z j ≤ s → Least z k (s - z j) (T j))
    (h : (x = -1 ∧ ∀ j, j < k → z j ≤ s → T j < 0) ∨ ((∃ j, j < k ∧ z j ≤ s ∧ 0 ≤ T j ∧ x = T j + 1) ∧ ∀ j, j < k → z j ≤ s → 0 ≤ T j → x ≤ T j + 1)) : Least z k s x := by
  have key : ∀ n, Sol z k s n → ∃ j, j < k ∧ z j ≤ s ∧ 0 < n ∧ Sol z k (s - z j) (n - 1) := fun n hn => by
    rcases hn.parts 0 (by omega) with h | ⟨i, _, a, b, c, d⟩
    · exact absurd h.1 (by omega)
    · exact ⟨i, a, b, c, d⟩
  rcases h with ⟨rfl, h⟩ | ⟨⟨j, h1, h2, h3, rfl⟩, h⟩
  · refine .inl ⟨rfl, fun n hn => ?_⟩
    obtain ⟨j, a, b, _, d⟩ := key n hn
    rcases hT j a b with ⟨_, g⟩ | ⟨m, g, _⟩
    · exact g _ d
    · have := h j a b; omega
  · rcases hT j h1 h2 with ⟨g, _⟩ | ⟨m, g, g1, _⟩
    · omega
    · refine .inr ⟨m + 1, by omega, ?_, fun n hn => ?_⟩
      · have := g1.add h1
        rwa [show s - z j + z j = s by omega] at this
      · obtain ⟨i, a, b, c, d⟩ := key n hn
        rcases hT i a b with ⟨_, q⟩ | ⟨p, q, _, q2⟩
        · exact absurd d (q _)
        · have := h i a b (by omega)
          have := q2 _ d
          omega
end Go.Proofs.YtoiaggjjfahabaaDoor
