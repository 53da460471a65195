/- Plain: valid bookings stay valid without the first one, and not with it twice. No condition. -/
import Derived.Test.YtoiaggjjfahabaaPBk
namespace Go.Proofs.Ytoiaggjjfahabaa
open Go.RowKit
set_option linter.unusedVariables false
theorem fnd_none (qs : List Quad) (id : Int) (k : Nat) : fnd qs id k = -1 ↔ ∀ j, j < k → (qs.getD j q0).a ≠ id := by
  induction k with
  | zero => simp [fnd]
  | succ k ih =>
    by_cases h : fnd qs id k = -1
    · by_cases e : (qs.getD k q0).a = id
      · constructor
        · intro g
          have := fnd_hit qs id k (k + 1) (by omega) h e
          omega
        · intro g
          exact absurd e (g k (by omega))
      · rw [fnd_miss qs id k h e]
        refine ⟨fun _ j hj => ?_, fun _ => rfl⟩
        by_cases ej : j = k
        · subst ej; exact e
        · exact ih.mp h j (by omega)
    · have b := fnd_bd qs id k
      have := fnd_more qs id k 1 (by omega)
      constructor
      · intro g; omega
      · intro g
        exact absurd (ih.mpr fun j hj => g j (by omega)) h
theorem bsV_iff (qs : List Quad) : bsV qs = true ↔ qs.length ≤ 7 ∧ ∀ i, i < qs.length → bv (qs.getD i q0).a (qs.getD i q0).b (qs.getD i q0).c (qs.getD i q0).d = true ∧ ∀ j, j < i → (qs.getD j q0).a ≠ (qs.getD i q0).a := by
  unfold bsV
  rw [decide_eq_true_iff]
  constructor
  · rintro ⟨h1, h2⟩
    exact ⟨h1, fun i hi => ⟨(h2 i hi).1, (fnd_none _ _ _).mp (h2 i hi).2⟩⟩
  · rintro ⟨h1, h2⟩
    exact ⟨h1, fun i hi => ⟨(h2 i hi).1, (fnd_none _ _ _).mpr (h2 i hi).2⟩⟩
theorem bsV_tail {qs : List Quad} (h : bsV qs = true) : bsV (qs.drop 1) = true := by
  rw [bsV_iff] at h ⊢
  have e : ∀ i, (qs.drop 1).getD i q0 = qs.getD (i + 1) q0 := fun i => by simp [List.getD_eq_getElem?_getD]
  rw [List.length_drop]
  refine ⟨by omega, fun i hi => ?_⟩
  rw [e]
  have := h.2 (i + 1) (by omega)
  refine ⟨this.1, fun j hj => ?_⟩
  rw [e]
  exact this.2 (j + 1) (by omega)
theorem bsV_twice {qs : List Quad} (h : 0 < qs.length) : bsV (qs ++ [qs.getD 0 q0]) = false := by
  cases hb : bsV (qs ++ [qs.getD 0 q0]) with
  | false => rfl
  | true =>
    rw [bsV_iff] at hb
    have := (hb.2 qs.length (by simp)).2 0 h
    refine absurd ?_ this
    simp only [List.getD_eq_getElem?_getD]
    rw [List.getElem?_append_left h, List.getElem?_append_right (Nat.le_refl _)]
    simp
theorem bsV_nil : bsV [] = true := by rw [bsV_iff]; exact ⟨by simp, fun i hi => absurd hi (by simp)⟩
end Go.Proofs.Ytoiaggjjfahabaa
