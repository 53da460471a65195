/- Plain: bookings out of a list: valid ones stay valid; how many have an hour; the greatest number that have one in common. No condition. -/
import Derived.Test.YtoiaggjjfahabaaPBk
import Derived.Test.YtoiaggjjfahabaaPBv
import Derived.Test.YtoiaggjjfahabaaBMost
namespace Go.Proofs.Ytoiaggjjfahabaa
set_option linter.unusedVariables false
theorem bsV_pw (qs : List Quad) : bsV qs = true ↔ qs.length ≤ 7 ∧ (∀ q ∈ qs, bv q.a q.b q.c q.d = true) ∧ qs.Pairwise fun p q => p.a ≠ q.a := by
  have gd : ∀ i, (h : i < qs.length) → qs.getD i q0 = qs[i] := fun i h => by rw [List.getD_eq_getElem?_getD, List.getElem?_eq_getElem h]; rfl
  rw [bsV_iff, List.pairwise_iff_getElem]
  constructor
  · rintro ⟨h1, h2⟩
    refine ⟨h1, fun q hq => ?_, fun i j hi hj hij => ?_⟩
    · obtain ⟨i, hi, rfl⟩ := List.getElem_of_mem hq
      have := (h2 i hi).1
      rwa [gd i hi] at this
    · have := (h2 j hj).2 i hij
      rwa [gd i hi, gd j hj] at this
  · rintro ⟨h1, h2, h3⟩
    refine ⟨h1, fun i hi => ⟨?_, fun j hj => ?_⟩⟩
    · rw [gd i hi]; exact h2 _ (List.getElem_mem hi)
    · rw [gd i hi, gd j (by omega)]; exact h3 j i (by omega) hi hj
theorem bsV_sub {xs qs : List Quad} (h : xs.Sublist qs) (hv : bsV qs = true) : bsV xs = true := by
  rw [bsV_pw] at hv ⊢
  exact ⟨Nat.le_trans h.length_le hv.1, fun q hq => hv.2.1 q (h.subset hq), hv.2.2.sublist h⟩
theorem baV_sub {xs qs : List Quad} (h : xs.Sublist qs) (i : Int) : baV xs i ≤ baV qs i := by
  induction h with
  | slnil => exact Int.le_refl _
  | cons a _ ih => rw [baV_cons]; split <;> omega
  | cons_cons a _ ih => rw [baV_cons, baV_cons]; split <;> omega
theorem bmTo_spec (qs : List Quad) (k : Nat) : (∀ i : Nat, i < k → baV qs i ≤ bmTo qs k) ∧ (bmTo qs k = 0 ∨ ∃ i : Nat, i < k ∧ baV qs i = bmTo qs k) := by
  induction k with
  | zero => exact ⟨fun i hi => absurd hi (by omega), .inl rfl⟩
  | succ k ih =>
    have e : bmTo qs (k + 1) = max (bmTo qs k) (baV qs k) := rfl
    rw [e]
    refine ⟨fun i hi => ?_, ?_⟩
    · by_cases g : i = k
      · subst g; omega
      · have := ih.1 i (by omega); omega
    · rcases Int.le_total (baV qs k) (bmTo qs k) with g | g
      · rw [Int.max_eq_left g]
        rcases ih.2 with h | ⟨i, h1, h2⟩
        · exact .inl h
        · exact .inr ⟨i, by omega, h2⟩
      · rw [Int.max_eq_right g]; exact .inr ⟨k, by omega, rfl⟩
theorem bmTo_le {qs : List Quad} {k : Nat} {m : Int} (h0 : 0 ≤ m) (h : ∀ i : Nat, i < k → baV qs i ≤ m) : bmTo qs k ≤ m := by
  rcases (bmTo_spec qs k).2 with e | ⟨i, h1, h2⟩
  · omega
  · have := h i h1; omega
theorem bmTo_sub {xs qs : List Quad} (h : xs.Sublist qs) (k : Nat) : bmTo xs k ≤ bmTo qs k := by
  refine bmTo_le (bmTo_bd qs k).1 fun i hi => ?_
  have := baV_sub h (i : Int)
  have := (bmTo_spec qs k).1 i hi
  omega
/-- the list without its booking k -/
def rmv (qs : List Quad) (k : Nat) : List Quad := qs.take k ++ qs.drop (k + 1)
theorem rmv_sub (qs : List Quad) (k : Nat) : (rmv qs k).Sublist qs := by
  have := List.Sublist.append (List.Sublist.refl (qs.take k)) (List.drop_sublist_drop_left qs (Nat.le_succ k))
  rw [List.take_append_drop] at this
  exact this
theorem rmv_at (qs : List Quad) (k : Nat) (hk : k < qs.length) (h : Int) : baV (rmv qs k) h = baV qs h - if atH (qs.getD k q0) h then 1 else 0 := by
  have e := baV_split qs h k
  rw [List.drop_eq_getElem_cons hk, baV_cons] at e
  unfold rmv
  rw [baV_append]
  have g : qs.getD k q0 = qs[k] := by rw [List.getD_eq_getElem?_getD, List.getElem?_eq_getElem hk]; rfl
  rw [g]
  omega
/-- without one booking there are as many, or one less -/
theorem bm_rmv {qs : List Quad} (hv : bsV qs = true) (k : Nat) (hk : k < qs.length) : bmV (rmv qs k) = bmV qs ∨ bmV (rmv qs k) = bmV qs - 1 := by
  unfold bmV
  rw [if_pos hv, if_pos (bsV_sub (rmv_sub qs k) hv)]
  have h1 := bmTo_sub (rmv_sub qs k) 30
  have h2 := (bmTo_bd (rmv qs k) 30).1
  rcases (bmTo_spec qs 30).2 with e | ⟨i, hi, e⟩
  · omega
  · have := (bmTo_spec (rmv qs k) 30).1 i hi
    have g := rmv_at qs k hk i
    split at g <;> omega
/-- some hour before k has so many, or there are none at all -/
def someM (qs : List Quad) (x : Int) : Nat → Bool
  | 0 => decide (x = 0)
  | k + 1 => someM qs x k || decide (baV qs k = x)
theorem someM_end (qs : List Quad) : someM qs (bmTo qs 30) 30 = true := by
  have key : ∀ k, someM qs (bmTo qs 30) k = true ↔ bmTo qs 30 = 0 ∨ ∃ i : Nat, i < k ∧ baV qs i = bmTo qs 30 := by
    intro k
    induction k with
    | zero => unfold someM; rw [decide_eq_true_iff]; exact ⟨.inl, fun h => h.elim id fun ⟨i, h, _⟩ => absurd h (by omega)⟩
    | succ k ih =>
      unfold someM
      rw [Bool.or_eq_true, ih, decide_eq_true_iff]
      constructor
      · rintro ((h | ⟨i, h1, h2⟩) | h)
        · exact .inl h
        · exact .inr ⟨i, by omega, h2⟩
        · exact .inr ⟨k, by omega, h⟩
      · rintro (h | ⟨i, h1, h2⟩)
        · exact .inl (.inl h)
        · by_cases e : i = k
          · subst e; exact .inr h2
          · exact .inl (.inr ⟨i, by omega, h2⟩)
  rw [key]
  exact (bmTo_spec qs 30).2
end Go.Proofs.Ytoiaggjjfahabaa
