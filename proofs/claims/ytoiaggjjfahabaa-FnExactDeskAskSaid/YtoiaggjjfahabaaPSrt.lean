/- Plain: an insertion sort of indices by the beginnings of bookings. No program. -/
import Derived.Test.YtoiaggjjfahabaaPPlc
import Derived.Test.YtoiaggjjfahabaaPCut
namespace Go.Proofs.Ytoiaggjjfahabaa
set_option linter.unusedVariables false
/-- the first i indices stand in their order -/
structure Srt (qs : List Quad) (n i : Nat) (r : List Nat) : Prop where
  len : r.length = n
  lt : ∀ t, t < n → r.getD t 0 < n
  all : ∀ x, x < n → ∃ t, t < n ∧ r.getD t 0 = x
  id : ∀ t, i ≤ t → t < n → r.getD t 0 = t
  asc : ∀ s t, s < t → t < i → bef qs (r.getD s 0) (r.getD t 0)
  low : ∀ t, t < i → t < n → r.getD t 0 < i
/-- index i is being moved down and stands at j -/
structure Ins (qs : List Quad) (n i j : Nat) (r : List Nat) : Prop where
  len : r.length = n
  lt : ∀ t, t < n → r.getD t 0 < n
  all : ∀ x, x < n → ∃ t, t < n ∧ r.getD t 0 = x
  here : r.getD j 0 = i
  id : ∀ t, i < t → t < n → r.getD t 0 = t
  asc : ∀ s t, s < t → t ≤ i → s ≠ j → t ≠ j → bef qs (r.getD s 0) (r.getD t 0)
  hi : ∀ t, j < t → t ≤ i → bef qs i (r.getD t 0)
  low : ∀ t, t ≤ i → t ≠ j → r.getD t 0 < i
  ji : j ≤ i
  iN : i < n
variable {qs : List Quad} {n i j : Nat} {r : List Nat}
theorem Srt.ins (h : Srt qs n i r) (hi : i < n) : Ins qs n i i r :=
  ⟨h.len, h.lt, h.all, h.id i (Nat.le_refl _) hi, fun t h1 h2 => h.id t (by omega) h2, fun s t h1 h2 h3 h4 => h.asc s t h1 (by omega), fun t h1 h2 => absurd h1 (by omega), fun t h1 h2 => h.low t (by omega) (by omega), Nat.le_refl _, hi⟩
theorem Ins.swap {p : Nat} (h : Ins qs n i (p + 1) r) (hb : (qs.getD i q0).b < (qs.getD (r.getD p 0) q0).b) : Ins qs n i p ((r.set (p + 1) (r.getD p 0)).set p i) := by
  have hl := h.len
  have ji := h.ji
  have iN := h.iN
  have g : ∀ t, ((r.set (p + 1) (r.getD p 0)).set p i).getD t 0 = if t = p then i else if t = p + 1 then r.getD p 0 else r.getD t 0 := fun t => by
    rw [getD_set, getD_set, List.length_set]
    by_cases e : t = p
    · subst e; rw [if_pos ⟨rfl, by omega⟩, if_pos rfl]
    · rw [if_neg (fun q => e q.1.symm), if_neg e]
      by_cases e2 : t = p + 1
      · subst e2; rw [if_pos ⟨rfl, by omega⟩, if_pos rfl]
      · rw [if_neg (fun q => e2 q.1.symm), if_neg e2]
  have hp1 := h.here
  have lowp := h.low p (by omega) (by omega)
  refine ⟨by rw [List.length_set, List.length_set, hl], fun t ht => ?_, fun x hx => ?_, ?_, fun t h1 h2 => ?_, fun s t h1 h2 h3 h4 => ?_, fun t h1 h2 => ?_, fun t h1 h2 => ?_, by omega, iN⟩
  · rw [g]
    split
    · omega
    · split
      · exact h.lt p (by omega)
      · exact h.lt t ht
  · obtain ⟨t, t1, t2⟩ := h.all x hx
    by_cases e : t = p
    · exact ⟨p + 1, by omega, by rw [g, if_neg (by omega), if_pos rfl, ← e]; exact t2⟩
    · by_cases e2 : t = p + 1
      · exact ⟨p, by omega, by rw [g, if_pos rfl, ← t2, e2, hp1]⟩
      · exact ⟨t, t1, by rw [g, if_neg e, if_neg e2]; exact t2⟩
  · rw [g, if_pos rfl]
  · rw [g, if_neg (by omega), if_neg (by omega)]; exact h.id t h1 h2
  · rw [g, g, if_neg h3, if_neg h4]
    by_cases e1 : s = p + 1
    · rw [if_pos e1, if_neg (by omega)]
      exact h.asc p t (by omega) h2 (by omega) (by omega)
    · rw [if_neg e1]
      by_cases e2 : t = p + 1
      · rw [if_pos e2]
        exact h.asc s p (by omega) (by omega) e1 (by omega)
      · rw [if_neg e2]
        exact h.asc s t h1 h2 e1 e2
  · rw [g, if_neg (by omega)]
    by_cases e2 : t = p + 1
    · rw [if_pos e2]; exact .inl hb
    · rw [if_neg e2]; exact h.hi t (by omega) h2
  · rw [g, if_neg h2]
    by_cases e2 : t = p + 1
    · rw [if_pos e2]; exact lowp
    · rw [if_neg e2]; exact h.low t h1 e2
theorem Ins.stop (h : Ins qs n i j r) (hs : j = 0 ∨ ∃ p, p + 1 = j ∧ ¬ (qs.getD i q0).b < (qs.getD (r.getD p 0) q0).b) : Srt qs n (i + 1) r := by
  have ji := h.ji
  have below : ∀ s, s < j → bef qs (r.getD s 0) i := by
    rcases hs with h0 | ⟨p, hp, hb⟩
    · intro s h1; omega
    · have bp : bef qs (r.getD p 0) i := by
        have := h.low p (by omega) (by omega)
        unfold bef; omega
      intro s h1
      by_cases e : s = p
      · rw [e]; exact bp
      · exact bef_trans qs _ _ _ (h.asc s p (by omega) (by omega) (by omega) (by omega)) bp
  refine ⟨h.len, h.lt, h.all, fun t h1 h2 => h.id t (by omega) h2, fun s t h1 h2 => ?_, fun t h1 h2 => ?_⟩
  · by_cases e1 : s = j
    · rw [e1, h.here]; exact h.hi t (by omega) (by omega)
    · by_cases e2 : t = j
      · rw [e2, h.here]; exact below s (by omega)
      · exact h.asc s t h1 (by omega) e1 e2
  · by_cases e : t = j
    · rw [e, h.here]; omega
    · have := h.low t (by omega) e; omega
theorem range_getD (n t : Nat) (h : t < n) : (List.range n).getD t 0 = t := by
  rw [List.getD_eq_getElem?_getD, List.getElem?_range h]; rfl
theorem Srt.start (qs : List Quad) (n : Nat) : Srt qs n 1 (List.range n) :=
  ⟨List.length_range, fun t h => by rw [range_getD n t h]; exact h, fun x h => ⟨x, h, range_getD n x h⟩, fun t _ h => range_getD n t h, fun s t h1 h2 => by omega, fun t h1 h2 => by rw [range_getD n t h2]; exact h1⟩
theorem Srt.done (h : Srt qs n i r) (hv : bsV qs = true) (hn : qs.length = n) (hi : n ≤ i) : r = ordF qs := by
  refine ord_is hv ?_ fun x => ?_
  · rw [List.pairwise_iff_getElem]
    intro s t hs ht hst
    have := h.asc s t hst (by have := h.len; omega)
    rw [List.getD_eq_getElem?_getD, List.getElem?_eq_getElem hs, List.getD_eq_getElem?_getD, List.getElem?_eq_getElem ht] at this
    exact this
  · rw [hn]
    constructor
    · intro hx
      obtain ⟨t, ht, e⟩ := List.mem_iff_getElem.1 hx
      have := h.lt t (by rw [← h.len]; exact ht)
      rw [List.getD_eq_getElem?_getD, List.getElem?_eq_getElem ht, Option.getD_some, e] at this
      exact this
    · intro hx
      obtain ⟨t, ht, e⟩ := h.all x hx
      have hl : t < r.length := by rw [h.len]; exact ht
      rw [List.getD_eq_getElem?_getD, List.getElem?_eq_getElem hl, Option.getD_some] at e
      rw [← e]; exact List.getElem_mem hl
/-- cmp.Compare of two numbers -/
def cmpI (a b : Int) : Int := if a < b then -1 else if b < a then 1 else 0
theorem cmpI_neg (a b : Int) : cmpI a b < 0 ↔ a < b := by unfold cmpI; split; (rename_i h; simp [h]); (split <;> simp <;> omega)
end Go.Proofs.Ytoiaggjjfahabaa
