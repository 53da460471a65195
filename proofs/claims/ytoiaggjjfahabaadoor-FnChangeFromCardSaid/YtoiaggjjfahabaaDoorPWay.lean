/- Plain: the least number of coins out of a stock, kind by kind; the best numbers. No program. -/
import Derived.Test.YtoiaggjjfahabaaDoorBase
namespace Go.Proofs.YtoiaggjjfahabaaDoor
set_option linter.unusedVariables false
/-- the least number of coins when the first j numbers of a further kind are tried -/
def cTo (f : Nat → Int) (c s : Nat) : Nat → Int
  | 0 => -1
  | j + 1 => if 0 ≤ f (s - j * c) ∧ (cTo f c s j < 0 ∨ f (s - j * c) + j < cTo f c s j) then f (s - j * c) + j else cTo f c s j
theorem cTo_spec (f : Nat → Int) (c s J : Nat) :
    (cTo f c s J = -1 ∧ ∀ j, j < J → f (s - j * c) < 0) ∨ ((∃ j, j < J ∧ 0 ≤ f (s - j * c) ∧ cTo f c s J = f (s - j * c) + j) ∧ ∀ j, j < J → 0 ≤ f (s - j * c) → cTo f c s J ≤ f (s - j * c) + j) := by
  induction J with
  | zero => exact .inl ⟨rfl, fun j hj => absurd hj (by omega)⟩
  | succ J ih =>
    unfold cTo
    by_cases h : 0 ≤ f (s - J * c) ∧ (cTo f c s J < 0 ∨ f (s - J * c) + J < cTo f c s J)
    · rw [if_pos h]
      refine .inr ⟨⟨J, by omega, h.1, rfl⟩, fun j hj hf => ?_⟩
      by_cases e : j = J
      · subst e; omega
      · rcases ih with ⟨h1, h2⟩ | ⟨_, h2⟩
        · have := h2 j (by omega); omega
        · have := h2 j (by omega) hf; omega
    · rw [if_neg h]
      rcases ih with ⟨h1, h2⟩ | ⟨⟨j, hj, hf, he⟩, h2⟩
      · refine .inl ⟨h1, fun j hj => ?_⟩
        by_cases e : j = J
        · subst e; omega
        · exact h2 j (by omega)
      · refine .inr ⟨⟨j, by omega, hf, he⟩, fun i hi hfi => ?_⟩
        by_cases e : i = J
        · subst e; omega
        · exact h2 i (by omega) hfi
/-- how many numbers of a kind are tried -/
def cnt (q c s : Nat) : Nat := min q (s / c) + 1
def cost (z q : Nat → Nat) : Nat → Nat → Int
  | 0, s => if s = 0 then 0 else -1
  | i + 1, s => cTo (cost z q i) (z i) s (cnt (q i) (z i) s)
theorem cost_bd (z q : Nat → Nat) (i s : Nat) : -1 ≤ cost z q i s := by
  cases i with
  | zero => unfold cost; split <;> omega
  | succ i =>
    unfold cost
    rcases cTo_spec (cost z q i) (z i) s (cnt (q i) (z i) s) with ⟨h, _⟩ | ⟨⟨j, _, h1, h2⟩, _⟩ <;> omega
/-- the greatest n up to N with f (s - n c) = t - n -/
def down (f : Nat → Int) (c s : Nat) (t : Int) : Nat → Nat
  | 0 => 0
  | j + 1 => if f (s - (j + 1) * c) = t - ((j + 1 : Nat) : Int) then j + 1 else down f c s t j
theorem down_eq {f : Nat → Int} {c s : Nat} {t : Int} (N n : Nat) (hn : n ≤ N) (h1 : f (s - n * c) = t - n) (h2 : ∀ j, n < j → j ≤ N → f (s - j * c) ≠ t - j) : down f c s t N = n := by
  induction N with
  | zero => unfold down; omega
  | succ N ih =>
    unfold down
    by_cases e : n = N + 1
    · subst e; rw [if_pos h1]
    · rw [if_neg (h2 (N + 1) (by omega) (by omega))]
      exact ih (by omega) fun j a b => h2 j a (by omega)
def way (z q : Nat → Nat) : Nat → Nat → List Nat
  | 0, _ => []
  | i + 1, s => way z q i (s - down (cost z q i) (z i) s (cost z q (i + 1) s) (min (min (q i) (s / z i)) (cost z q (i + 1) s).toNat) * z i) ++ [down (cost z q i) (z i) s (cost z q (i + 1) s) (min (min (q i) (s / z i)) (cost z q (i + 1) s).toNat)]
/-- the number of the topmost kind -/
def topN (z q : Nat → Nat) (i s : Nat) : Nat := down (cost z q i) (z i) s (cost z q (i + 1) s) (min (min (q i) (s / z i)) (cost z q (i + 1) s).toNat)
theorem way_succ (z q : Nat → Nat) (i s : Nat) : way z q (i + 1) s = way z q i (s - topN z q i s * z i) ++ [topN z q i s] := rfl
/-- of the best numbers the greatest one -/
theorem best_top (z q : Nat → Nat) (i s : Nat) (h : 0 ≤ cost z q (i + 1) s) : ∃ n, n < cnt (q i) (z i) s ∧ 0 ≤ cost z q i (s - n * z i) ∧ cost z q (i + 1) s = cost z q i (s - n * z i) + n ∧ (∀ j, n < j → j < cnt (q i) (z i) s → 0 ≤ cost z q i (s - j * z i) → cost z q (i + 1) s < cost z q i (s - j * z i) + j) ∧ topN z q i s = n := by
  have hs := cTo_spec (cost z q i) (z i) s (cnt (q i) (z i) s)
  have e : cost z q (i + 1) s = cTo (cost z q i) (z i) s (cnt (q i) (z i) s) := rfl
  rw [← e] at hs
  rcases hs with ⟨h1, _⟩ | ⟨⟨j0, hj0, hf0, he0⟩, hmin⟩
  · omega
  · -- the greatest index that attains the minimum
    have key : ∀ J, J ≤ cnt (q i) (z i) s → (∃ j, j < J ∧ 0 ≤ cost z q i (s - j * z i) ∧ cost z q (i + 1) s = cost z q i (s - j * z i) + j) → ∃ n, n < J ∧ 0 ≤ cost z q i (s - n * z i) ∧ cost z q (i + 1) s = cost z q i (s - n * z i) + n ∧ ∀ j, n < j → j < J → 0 ≤ cost z q i (s - j * z i) → cost z q (i + 1) s < cost z q i (s - j * z i) + j := by
      intro J hJ
      induction J with
      | zero => rintro ⟨j, hj, _⟩; omega
      | succ J ih =>
        rintro ⟨j, hj, hf, he⟩
        by_cases g : 0 ≤ cost z q i (s - J * z i) ∧ cost z q (i + 1) s = cost z q i (s - J * z i) + J
        · exact ⟨J, by omega, g.1, g.2, fun k a b => absurd b (by omega)⟩
        · have hne : j ≠ J := fun e => by subst e; exact g ⟨hf, he⟩
          obtain ⟨n, a, b, c, d⟩ := ih (by omega) ⟨j, by omega, hf, he⟩
          refine ⟨n, by omega, b, c, fun k hk hkJ hfk => ?_⟩
          by_cases e : k = J
          · subst e
            have := hmin k (by omega) hfk
            by_cases e2 : cost z q (i + 1) s = cost z q i (s - k * z i) + k
            · exact absurd ⟨hfk, e2⟩ g
            · omega
          · exact d k hk (by omega) hfk
    obtain ⟨n, a, b, c, d⟩ := key _ (Nat.le_refl _) ⟨j0, hj0, hf0, he0⟩
    refine ⟨n, a, b, c, d, ?_⟩
    unfold topN
    have hN : n ≤ min (min (q i) (s / z i)) (cost z q (i + 1) s).toNat := by unfold cnt at a; omega
    refine down_eq _ n hN (by omega) fun j hj hjN he => ?_
    have hjc : j < cnt (q i) (z i) s := by unfold cnt; omega
    by_cases hf : 0 ≤ cost z q i (s - j * z i)
    · have := d j hj hjc hf; omega
    · have := cost_bd z q i (s - j * z i); omega
/-- the search of the reference: from the greatest number down, a better one replaces -/
def dTo (f : Nat → Int) (c s J : Nat) : Nat → Int × Nat
  | 0 => (-1, 0)
  | k + 1 => if 0 ≤ f (s - (J - 1 - k) * c) ∧ ((dTo f c s J k).1 < 0 ∨ f (s - (J - 1 - k) * c) + ((J - 1 - k : Nat) : Int) < (dTo f c s J k).1) then (f (s - (J - 1 - k) * c) + ((J - 1 - k : Nat) : Int), J - 1 - k) else dTo f c s J k
theorem dTo_spec (f : Nat → Int) (c s J k : Nat) (hk : k ≤ J) :
    ((dTo f c s J k).1 = -1 ∧ ∀ j, J - k ≤ j → j < J → f (s - j * c) < 0) ∨
    (J - k ≤ (dTo f c s J k).2 ∧ (dTo f c s J k).2 < J ∧ 0 ≤ f (s - (dTo f c s J k).2 * c) ∧ (dTo f c s J k).1 = f (s - (dTo f c s J k).2 * c) + (dTo f c s J k).2 ∧
      ∀ j, J - k ≤ j → j < J → 0 ≤ f (s - j * c) → (dTo f c s J k).1 ≤ f (s - j * c) + j ∧ ((dTo f c s J k).2 < j → (dTo f c s J k).1 < f (s - j * c) + j)) := by
  induction k with
  | zero => exact .inl ⟨rfl, fun j h1 h2 => by omega⟩
  | succ k ih =>
    have ih := ih (by omega)
    unfold dTo
    generalize hp : dTo f c s J k = p at *
    obtain ⟨t, n⟩ := p
    simp only at ih ⊢
    by_cases h : 0 ≤ f (s - (J - 1 - k) * c) ∧ (t < 0 ∨ f (s - (J - 1 - k) * c) + ((J - 1 - k : Nat) : Int) < t)
    · rw [if_pos h]
      refine .inr ⟨by simp only; omega, by simp only; omega, h.1, rfl, fun j hj hjJ hf => ?_⟩
      simp only
      by_cases e : j = J - 1 - k
      · subst e; exact ⟨Int.le_refl _, fun h => absurd h (by omega)⟩
      · rcases ih with ⟨h1, h2⟩ | ⟨_, _, _, _, h2⟩
        · have := h2 j (by omega) hjJ; omega
        · have := h2 j (by omega) hjJ hf; omega
    · rw [if_neg h]
      rcases ih with ⟨h1, h2⟩ | ⟨a, b, d, e, h2⟩
      · refine .inl ⟨h1, fun j hj hjJ => ?_⟩
        by_cases e : j = J - 1 - k
        · subst e
          by_cases hf : 0 ≤ f (s - (J - 1 - k) * c)
          · exact absurd ⟨hf, .inl (by omega)⟩ h
          · omega
        · exact h2 j (by omega) hjJ
      · refine .inr ⟨by simp only; omega, b, d, e, fun j hj hjJ hf => ?_⟩
        by_cases e2 : j = J - 1 - k
        · subst e2
          refine ⟨?_, fun h => by omega⟩
          by_cases g : f (s - (J - 1 - k) * c) + ((J - 1 - k : Nat) : Int) < t
          · exact absurd ⟨hf, .inr g⟩ h
          · simp only; omega
        · exact h2 j (by omega) hjJ hf
theorem dTo_top (z q : Nat → Nat) (i s : Nat) : (dTo (cost z q i) (z i) s (cnt (q i) (z i) s) (cnt (q i) (z i) s)).1 = cost z q (i + 1) s ∧ (0 ≤ cost z q (i + 1) s → (dTo (cost z q i) (z i) s (cnt (q i) (z i) s) (cnt (q i) (z i) s)).2 = topN z q i s) := by
  have hd := dTo_spec (cost z q i) (z i) s (cnt (q i) (z i) s) (cnt (q i) (z i) s) (Nat.le_refl _)
  have hs := cTo_spec (cost z q i) (z i) s (cnt (q i) (z i) s)
  have e : cost z q (i + 1) s = cTo (cost z q i) (z i) s (cnt (q i) (z i) s) := rfl
  rw [← e] at hs
  generalize dTo (cost z q i) (z i) s (cnt (q i) (z i) s) (cnt (q i) (z i) s) = p at *
  obtain ⟨t, n⟩ := p
  simp only at hd ⊢
  rcases hd with ⟨d1, d2⟩ | ⟨d1, d2, d3, d4, d5⟩
  · rcases hs with ⟨h1, _⟩ | ⟨⟨j, a, b, c⟩, _⟩
    · exact ⟨by omega, fun h => by omega⟩
    · have := d2 j (by omega) a; omega
  · rcases hs with ⟨_, h2⟩ | ⟨⟨j, a, b, c⟩, h2⟩
    · have := h2 n d2; omega
    · have k1 := (d5 j (by omega) a b).1
      have k2 := h2 n d2 d3
      refine ⟨by omega, fun h => ?_⟩
      obtain ⟨n', a', b', c', d', e'⟩ := best_top z q i s h
      rw [e']
      rcases Nat.lt_trichotomy n n' with g | g | g
      · have := (d5 n' (by omega) a' b').2 g; omega
      · exact g
      · have := d' n g d2 d3; omega
end Go.Proofs.YtoiaggjjfahabaaDoor
