/- Plain: the hours by ascending prices, price by price and hour by hour. No program. -/
import Derived.Test.YtoiaggjjfahabaaDoorPPrice
namespace Go.Proofs.YtoiaggjjfahabaaDoor
set_option linter.unusedVariables false
/-- of the first n hours those that are done before hour h of price p -/
def dnTo (ps : List Int) (p : Int) (h : Nat) : Nat → Nat
  | 0 => 0
  | j + 1 => if ps.getD j 0 < p ∨ (ps.getD j 0 = p ∧ j < h) then dnTo ps p h j ||| 2 ^ j else dnTo ps p h j
def dnS (ps : List Int) (p : Int) (h : Nat) : Nat := dnTo ps p h 6
theorem dnTo_bit (ps : List Int) (p : Int) (h n j : Nat) : (dnTo ps p h n).testBit j = true ↔ j < n ∧ (ps.getD j 0 < p ∨ (ps.getD j 0 = p ∧ j < h)) := by
  induction n with
  | zero => simp [-List.getD_eq_getElem?_getD, dnTo]
  | succ n ih =>
    unfold dnTo
    split
    · rename_i g
      rw [Nat.testBit_or, Bool.or_eq_true, ih, Nat.testBit_two_pow, decide_eq_true_iff]
      constructor
      · rintro (⟨a, b⟩ | rfl)
        · exact ⟨by omega, b⟩
        · exact ⟨by omega, g⟩
      · rintro ⟨a, b⟩
        by_cases e : n = j
        · exact .inr e
        · exact .inl ⟨by omega, b⟩
    · rename_i g
      rw [ih]
      constructor
      · rintro ⟨a, b⟩; exact ⟨by omega, b⟩
      · rintro ⟨a, b⟩
        by_cases e : j = n
        · subst e; exact absurd b g
        · exact ⟨by omega, b⟩
theorem dnS_bit (ps : List Int) (p : Int) (h j : Nat) : (dnS ps p h).testBit j = true ↔ j < 6 ∧ (ps.getD j 0 < p ∨ (ps.getD j 0 = p ∧ j < h)) := dnTo_bit ps p h 6 j
theorem dnS_lt (ps : List Int) (p : Int) (h : Nat) : dnS ps p h < 64 := lt64_of fun j hj => ((dnS_bit ps p h j).1 hj).1
theorem dnS_start {ps : List Int} (hp : ∀ k, 0 ≤ ps.getD k 0) : dnS ps 0 0 = 0 := by
  refine bits_eq (dnS_lt _ _ _) (by omega) fun j hj => ?_
  have := hp j
  rw [dnS_bit, Nat.zero_testBit]
  constructor
  · rintro ⟨_, a⟩; omega
  · intro a; cases a
theorem dnS_price (ps : List Int) (p : Int) : dnS ps p 6 = dnS ps (p + 1) 0 := by
  refine bits_eq (dnS_lt _ _ _) (dnS_lt _ _ _) fun j hj => ?_
  rw [dnS_bit, dnS_bit]
  constructor
  · rintro ⟨a, b⟩; exact ⟨a, by omega⟩
  · rintro ⟨a, b⟩; exact ⟨a, by omega⟩
theorem dnS_other {ps : List Int} {p : Int} {h : Nat} (hn : ps.getD h 0 ≠ p) : dnS ps p (h + 1) = dnS ps p h := by
  refine bits_eq (dnS_lt _ _ _) (dnS_lt _ _ _) fun j hj => ?_
  rw [dnS_bit, dnS_bit]
  by_cases e : j = h
  · subst e
    constructor
    · rintro ⟨a, b⟩; exact ⟨a, by omega⟩
    · rintro ⟨a, b⟩; exact ⟨a, by omega⟩
  · constructor
    · rintro ⟨a, b⟩; exact ⟨a, by omega⟩
    · rintro ⟨a, b⟩; exact ⟨a, by omega⟩
theorem dnS_this {ps : List Int} {p : Int} {h : Nat} (hh : h < 6) (he : ps.getD h 0 = p) : dnS ps p (h + 1) = dnS ps p h ||| 2 ^ h := by
  refine bits_eq (dnS_lt _ _ _) (or64 (dnS_lt _ _ _) (Nat.lt_of_lt_of_le (Nat.pow_lt_pow_right (by omega) hh) (Nat.le_refl _))) fun j hj => ?_
  rw [Nat.testBit_or, Bool.or_eq_true, dnS_bit, dnS_bit, Nat.testBit_two_pow, decide_eq_true_iff]
  by_cases e : j = h
  · subst e
    constructor
    · intro _; exact .inr rfl
    · intro _; exact ⟨hj, by omega⟩
  · constructor
    · rintro ⟨a, b⟩; exact .inl ⟨a, by omega⟩
    · rintro (⟨a, b⟩ | b)
      · exact ⟨a, by omega⟩
      · omega
theorem dnS_lb {ps : List Int} {p : Int} {h : Nat} (he : ps.getD h 0 = p) : dnS ps p h = lbS ps h := by
  refine bits_eq (dnS_lt _ _ _) (lbS_lt _ _) fun j hj => ?_
  rw [dnS_bit, show (lbS ps h).testBit j = (lbTo ps h 6).testBit j from rfl, lbTo_bit]
  unfold lx
  rw [he]
theorem dnS_end {ps : List Int} (hp : ∀ k, ps.getD k 0 ≤ 30) : dnS ps 31 0 = 63 := by
  refine bits_eq (dnS_lt _ _ _) (by omega) fun j hj => ?_
  have := hp j
  have e : (63 : Nat).testBit j = true := by
    have : (63 : Nat).testBit j = decide (j < 6) := Nat.testBit_two_pow_sub_one 6 j
    rw [this, decide_eq_true hj]
  rw [dnS_bit, e]
  constructor
  · intro _; rfl
  · intro _; exact ⟨hj, by omega⟩
theorem rstr_set (cs : List Int) (s h : Nat) : (rstr cs s).set h (cs.getD h 0) = rstr cs (s ||| 2 ^ h) := by
  apply List.ext_getElem?
  intro j
  unfold rstr
  rw [List.getElem?_set, List.getElem?_map, List.getElem?_map]
  by_cases hj : j < 6
  · rw [List.getElem?_range hj]
    simp only [Option.map_some, Nat.testBit_or, Nat.testBit_two_pow]
    by_cases e : h = j
    · subst e; simp [-List.getD_eq_getElem?_getD, hj]
    · have : decide (h = j) = false := by simpa using e
      simp [-List.getD_eq_getElem?_getD, e]
  · rw [List.getElem?_eq_none (by simp [-List.getD_eq_getElem?_getD]; omega)]
    split
    · rename_i e; subst e; simp [-List.getD_eq_getElem?_getD, hj]
    · rfl
/-- the hour's load, as the program reckons it -/
theorem cl_next {us : List Int} {rss : List (List Int)} {cs ps : List Int} {p : Int} {h : Nat} (hh : h < 6) (he : ps.getD h 0 = p) :
    (clS us rss cs ps (dnS ps p h)).set h (fV us rss cs (dnS ps p (h + 1)) - fV us rss cs (dnS ps p h)) = clS us rss cs ps (dnS ps p (h + 1)) := by
  have e : clV us rss cs ps h = fV us rss cs (dnS ps p h ||| 2 ^ h) - fV us rss cs (dnS ps p h) := by unfold clV; rw [dnS_lb he]
  rw [dnS_this hh he, ← e, clS_set]
end Go.Proofs.YtoiaggjjfahabaaDoor
