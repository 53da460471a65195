/- BooksMost does not depend on the order of the bookings. No program in sight. -/
import Derived.Test.YtoiaggjjfahabaaBMost
namespace Go.Proofs.Ytoiaggjjfahabaa
open Go.RowKit
set_option linter.unusedVariables false
theorem fnd_none0 (qs : List Quad) (id : Int) (n : Nat) : fnd qs id n = -1 ↔ ∀ j, j < n → (qs.getD j q0).a ≠ id := by
  induction n with
  | zero => simp [fnd]
  | succ n ih =>
    unfold fnd
    have hb := fnd_bd qs id n
    constructor
    · intro h j hj
      split at h
      · omega
      · rename_i hneg
        split at h
        · omega
        · rename_i hne
          rcases Nat.lt_or_ge j n with q | q
          · exact ih.1 (by omega) j q
          · obtain rfl : j = n := by omega
            exact hne
    · intro h
      have h1 := ih.2 fun j hj => h j (by omega)
      rw [if_neg (by omega), if_neg (h n (by omega))]
theorem getD_get0 (qs : List Quad) (i : Nat) (h : i < qs.length) : qs.getD i q0 = qs[i] := by
  rw [List.getD_eq_getElem?_getD, List.getElem?_eq_getElem h]; rfl
/-- valid lists, without indices -/
theorem bsV_iff0 (qs : List Quad) : bsV qs = true ↔ qs.length ≤ 7 ∧ (∀ q ∈ qs, bv q.a q.b q.c q.d = true) ∧ qs.Pairwise (fun x y => x.a ≠ y.a) := by
  unfold bsV
  rw [decide_eq_true_iff]
  refine and_congr_right fun _ => ?_
  constructor
  · intro h
    refine ⟨fun q hq => ?_, ?_⟩
    · obtain ⟨i, hi, rfl⟩ := List.mem_iff_getElem.1 hq
      have := (h i hi).1
      rw [getD_get0 qs i hi] at this; exact this
    · rw [List.pairwise_iff_getElem]
      intro i j hi hj hij
      have := (fnd_none0 qs _ j).1 (h j hj).2 i hij
      rw [getD_get0 qs i hi, getD_get0 qs j hj] at this
      exact this
  · rintro ⟨h1, h2⟩ i hi
    rw [List.pairwise_iff_getElem] at h2
    refine ⟨by rw [getD_get0 qs i hi]; exact h1 _ (List.getElem_mem hi), (fnd_none0 qs _ i).2 fun j hj => ?_⟩
    rw [getD_get0 qs i hi, getD_get0 qs j (by omega)]
    exact h2 j i (by omega) hi hj
theorem bsV_perm {qs ys : List Quad} (h : qs.Perm ys) : bsV qs = bsV ys := by
  rw [Bool.eq_iff_iff, bsV_iff0, bsV_iff0, h.length_eq]
  refine and_congr_right fun _ => and_congr ⟨fun g q hq => g q (h.mem_iff.2 hq), fun g q hq => g q (h.mem_iff.1 hq)⟩ ?_
  exact h.pairwise_iff (fun {x y} (g : x.a ≠ y.a) => Ne.symm g)
theorem baTo_count0 (qs : List Quad) (h : Int) (k : Nat) (hk : k ≤ qs.length) : baTo qs h k = ((qs.take k).countP (fun q => atH q h) : Nat) := by
  induction k with
  | zero => simp [baTo]
  | succ k ih =>
    unfold baTo
    rw [ih (by omega), List.take_succ_eq_append_getElem (by omega), List.countP_append, getD_get0 qs k (by omega)]
    by_cases hq : atH qs[k] h <;> simp [hq]
theorem baV_perm {qs ys : List Quad} (h : qs.Perm ys) (m : Int) : baV qs m = baV ys m := by
  unfold baV
  rw [baTo_count0 qs m _ (Nat.le_refl _), baTo_count0 ys m _ (Nat.le_refl _), List.take_length, List.take_length, h.countP_eq]
theorem bmV_perm {qs ys : List Quad} (h : qs.Perm ys) : bmV qs = bmV ys := by
  have e : ∀ k, bmTo qs k = bmTo ys k := fun k => by
    induction k with
    | zero => rfl
    | succ k ih => unfold bmTo; rw [ih, baV_perm h]
  unfold bmV
  rw [bsV_perm h, e]
end Go.Proofs.Ytoiaggjjfahabaa
