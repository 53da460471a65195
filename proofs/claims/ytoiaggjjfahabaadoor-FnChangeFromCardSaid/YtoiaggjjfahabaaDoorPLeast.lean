/- Plain: the table of the least numbers of coins holds the least numbers; what follows for sums of coins. No condition but valid kinds. -/
import Derived.Test.YtoiaggjjfahabaaDoorLeast
import Derived.Test.YtoiaggjjfahabaaDoorCSum
import Derived.Test.YtoiaggjjfahabaaDoorFrom
import Derived.Test.YtoiaggjjfahabaaDoorPSol
namespace Go.Proofs.YtoiaggjjfahabaaDoor
set_option linter.unusedVariables false
theorem lstep_eq (tab : List Int) (s : Nat) (b c T : Int) (hT : tab[(s - c : Int).toNat]?.getD 0 = T) : lstep tab s b c = if c ≤ s ∧ 0 ≤ T ∧ (b < 0 ∨ T + 1 < b) then T + 1 else b := by
  unfold lstep; rw [hT]
theorem bestTo_spec (zs tab : List Int) (s K : Nat) (T : Nat → Int) (hT : ∀ j, j < K → tab[(s - zs[j]?.getD 0 : Int).toNat]?.getD 0 = T j) :
    (bestTo zs tab s K = -1 ∧ ∀ j, j < K → zs[j]?.getD 0 ≤ s → T j < 0) ∨ ((∃ j, j < K ∧ zs[j]?.getD 0 ≤ s ∧ 0 ≤ T j ∧ bestTo zs tab s K = T j + 1) ∧ ∀ j, j < K → zs[j]?.getD 0 ≤ s → 0 ≤ T j → bestTo zs tab s K ≤ T j + 1) := by
  induction K with
  | zero => exact .inl ⟨rfl, fun j hj => absurd hj (by omega)⟩
  | succ K ih =>
    have ih := ih fun j hj => hT j (by omega)
    unfold bestTo
    rw [lstep_eq tab s (bestTo zs tab s K) (zs[K]?.getD 0) (T K) (hT K (by omega))]
    by_cases h : zs[K]?.getD 0 ≤ s ∧ 0 ≤ T K ∧ (bestTo zs tab s K < 0 ∨ T K + 1 < bestTo zs tab s K)
    · rw [if_pos h]
      refine .inr ⟨⟨K, by omega, h.1, h.2.1, rfl⟩, fun j hj hc hf => ?_⟩
      by_cases e : j = K
      · subst e; omega
      · rcases ih with ⟨h1, h2⟩ | ⟨_, h2⟩
        · have := h2 j (by omega) hc; omega
        · have := h2 j (by omega) hc hf; omega
    · rw [if_neg h]
      rcases ih with ⟨h1, h2⟩ | ⟨⟨j, hj, hc, hf, he⟩, h2⟩
      · refine .inl ⟨h1, fun j hj hc => ?_⟩
        by_cases e : j = K
        · subst e; omega
        · exact h2 j (by omega) hc
      · refine .inr ⟨⟨j, by omega, hc, hf, he⟩, fun i hi hci hfi => ?_⟩
        by_cases e : i = K
        · subst e; omega
        · exact h2 i (by omega) hci hfi
theorem tab_least (zs : List Int) (hz : ∀ i, i < zs.length → 1 ≤ zs[i]?.getD 0 ∧ zs[i]?.getD 0 ≤ 99) (s : Nat) : Least (fz zs) zs.length s ((tabTo zs s)[s]?.getD 0) := by
  induction s using Nat.strongRecOn with
  | _ s ih =>
    rcases s with _ | s
    · exact Least.zero _ _
    · have e : (tabTo zs (s + 1))[s + 1]?.getD 0 = bestTo zs (tabTo zs s) (s + 1) zs.length := by
        conv => lhs; unfold tabTo
        rw [List.getElem?_append_right (by rw [tabTo_len]; omega), tabTo_len]
        simp
      rw [e]
      have hb := bestTo_spec zs (tabTo zs s) (s + 1) zs.length (fun j => (tabTo zs s)[((s + 1 : Nat) - zs[j]?.getD 0 : Int).toNat]?.getD 0) fun j _ => rfl
      have hle : ∀ j, j < zs.length → (fz zs j ≤ s + 1 ↔ zs[j]?.getD 0 ≤ (s + 1 : Nat)) := fun j hj => by have := hz j hj; unfold fz; omega
      refine Least.step (by omega) (fun j => (tabTo zs s)[((s + 1 : Nat) - zs[j]?.getD 0 : Int).toNat]?.getD 0) (fun j hj hc => ?_) ?_
      · have hz1 := hz j hj
        have e1 : s + 1 - fz zs j = ((s + 1 : Nat) - zs[j]?.getD 0 : Int).toNat := by unfold fz; omega
        have := ih (s + 1 - fz zs j) (by unfold fz; omega)
        have hp := tabTo_pre zs (s + 1 - fz zs j) (s - (s + 1 - fz zs j)) (s + 1 - fz zs j) (Nat.le_refl _)
        rw [show s + 1 - fz zs j + (s - (s + 1 - fz zs j)) = s by unfold fz; omega] at hp
        rw [← e1, hp]; exact this
      · rcases hb with ⟨h1, h2⟩ | ⟨⟨j, a, b, c, d⟩, h2⟩
        · exact .inl ⟨h1, fun j hj hc => h2 j hj ((hle j hj).1 hc)⟩
        · exact .inr ⟨⟨j, a, (hle j a).2 b, c, d⟩, fun i hi hc hf => h2 i hi ((hle i hi).1 hc) hf⟩
theorem leastV_least {zs : List Int} (hv : cv zs = true) (a : Nat) (ha : a ≤ 300) : Least (fz zs) zs.length a (leastV zs a) := by
  have : leastV zs a = (tabTo zs a)[a]?.getD 0 := by
    unfold leastV
    rw [if_pos ⟨hv, by omega, by omega⟩]
    rfl
  rw [this]
  exact tab_least zs (cv_at hv).2.2 a
theorem Sol.le {z : Nat → Nat} {k s n : Nat} (hz : ∀ j, j < k → 1 ≤ z j) (h : Sol z k s n) : n ≤ s := by
  induction k generalizing s n with
  | zero => obtain ⟨rfl, rfl⟩ := h; exact Nat.le_refl _
  | succ k ih =>
    obtain ⟨m, h1, h2, h3⟩ := h
    have := ih (fun j hj => hz j (by omega)) h3
    have hk := hz k (by omega)
    have : m ≤ m * z k := Nat.le_mul_of_pos_right m hk
    omega
theorem leastV_bd {zs : List Int} (hv : cv zs = true) (a : Nat) (ha : a ≤ 300) : leastV zs a ≤ a ∧ -1 ≤ leastV zs a := by
  rcases leastV_least hv a ha with ⟨h, _⟩ | ⟨n, h, h1, _⟩
  · omega
  · have := h1.le fun j hj => by have := (cv_at hv).2.2 j hj; unfold fz; omega
    omega
theorem leastV_add {zs : List Int} (hv : cv zs = true) (a j : Nat) (hj : j < zs.length) (h0 : 0 ≤ leastV zs a) (ha : (a : Int) + zs[j]?.getD 0 ≤ 300) : 0 ≤ leastV zs (a + zs[j]?.getD 0) ∧ leastV zs (a + zs[j]?.getD 0) ≤ leastV zs a + 1 := by
  have hz := (cv_at hv).2.2 j hj
  have e : (a : Int) + zs[j]?.getD 0 = ((a + fz zs j : Nat) : Int) := by unfold fz; omega
  rw [e]
  have ha' : a + fz zs j ≤ 300 := by omega
  rcases leastV_least hv a (by omega) with ⟨h, _⟩ | ⟨n, h, h1, _⟩
  · omega
  · have h2 := h1.add hj
    rcases leastV_least hv (a + fz zs j) ha' with ⟨_, g⟩ | ⟨m, g, _, g2⟩
    · exact absurd h2 (g _)
    · have := g2 _ h2; omega
theorem dot_sol {zs ms : List Int} (hz : ∀ i, i < zs.length → 1 ≤ zs[i]?.getD 0 ∧ zs[i]?.getD 0 ≤ 99) (k : Nat) (hk : k ≤ zs.length) (hm : ∀ i, i < k → 0 ≤ ms[i]?.getD 0) :
    0 ≤ dotTo ms zs k ∧ 0 ≤ suT ms k ∧ Sol (fz zs) k (dotTo ms zs k).toNat (suT ms k).toNat := by
  induction k with
  | zero => exact ⟨by simp [dotTo], by simp [suT], by simp [dotTo, suT, Sol]⟩
  | succ k ih =>
    obtain ⟨h1, h2, h3⟩ := ih (by omega) fun i hi => hm i (by omega)
    have m0 := hm k (by omega)
    have z0 := hz k (by omega)
    have p0 := Int.mul_nonneg m0 (show (0 : Int) ≤ zs[k]?.getD 0 by omega)
    have e1 : dotTo ms zs (k + 1) = dotTo ms zs k + ms[k]?.getD 0 * zs[k]?.getD 0 := rfl
    have e2 : suT ms (k + 1) = suT ms k + ms[k]?.getD 0 := rfl
    have ep : (ms[k]?.getD 0).toNat * fz zs k = (ms[k]?.getD 0 * zs[k]?.getD 0).toNat := by
      unfold fz
      apply Int.ofNat.inj
      show (((ms[k]?.getD 0).toNat * (zs[k]?.getD 0).toNat : Nat) : Int) = ((ms[k]?.getD 0 * zs[k]?.getD 0).toNat : Nat)
      rw [Int.natCast_mul, Int.toNat_of_nonneg m0, Int.toNat_of_nonneg (by omega), Int.toNat_of_nonneg p0]
    refine ⟨by omega, by omega, (ms[k]?.getD 0).toNat, by omega, ?_, ?_⟩
    · rw [ep]; omega
    · rw [ep, show (dotTo ms zs (k + 1)).toNat - (ms[k]?.getD 0 * zs[k]?.getD 0).toNat = (dotTo ms zs k).toNat by omega, show (suT ms (k + 1)).toNat - (ms[k]?.getD 0).toNat = (suT ms k).toNat by omega]
      exact h3
/-- any coins that are together an amount are at least the least -/
theorem least_dot {zs ms : List Int} (hv : cv zs = true) (hm : ∀ i, i < zs.length → 0 ≤ ms[i]?.getD 0) (ha : dotTo ms zs zs.length ≤ 300) :
    0 ≤ leastV zs (dotTo ms zs zs.length) ∧ leastV zs (dotTo ms zs zs.length) ≤ suT ms zs.length := by
  obtain ⟨h1, h2, h3⟩ := dot_sol (cv_at hv).2.2 zs.length (Nat.le_refl _) hm
  have e : dotTo ms zs zs.length = ((dotTo ms zs zs.length).toNat : Int) := by omega
  rcases leastV_least hv (dotTo ms zs zs.length).toNat (by omega) with ⟨_, g⟩ | ⟨m, g, _, g2⟩
  · exact absurd h3 (g _)
  · rw [← e] at g
    have := g2 _ h3
    omega
end Go.Proofs.YtoiaggjjfahabaaDoor
