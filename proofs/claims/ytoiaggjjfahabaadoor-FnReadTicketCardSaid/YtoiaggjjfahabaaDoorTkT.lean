/- A ticket with one digit replaced, or with two digits exchanged: whether it is a ticket. No program in sight. -/
import Derived.Test.YtoiaggjjfahabaaDoorTkR
namespace Go.Proofs.YtoiaggjjfahabaaDoor
open Go
set_option linter.unusedVariables false
theorem byt_app (a b : ByteArray) (i : Nat) : byt (a ++ b) i = if i < a.size then byt a i else byt b (i - a.size) := by
  unfold byt
  rw [show (a ++ b).data.toList = a.data.toList ++ b.data.toList by rw [ByteArray.data_append]; simp]
  rw [List.getD_eq_getElem?_getD, List.getElem?_append]
  have hl : a.data.toList.length = a.size := by rw [Array.length_toList]; rfl
  rw [hl]
  split <;> rw [List.getD_eq_getElem?_getD]
theorem size_app (a b : ByteArray) : (a ++ b).size = a.size + b.size := ByteArray.size_append
theorem size_ext (s : ByteArray) (a b : Nat) (h : b ≤ s.size) : (s.extract a b).size = b - a := by
  rw [ByteArray.size_extract, Nat.min_eq_left h]
theorem byt_ext (s : ByteArray) (a b i : Nat) (h : b ≤ s.size) (hi : i < b - a) : byt (s.extract a b) i = byt s (a + i) := by
  unfold byt
  rw [ByteArray.data_extract, List.getD_eq_getElem?_getD, List.getD_eq_getElem?_getD, Array.getElem?_toList, Array.getElem?_toList, Array.getElem?_extract]
  rw [if_pos (by have : s.data.size = s.size := rfl; omega)]
def dgs : ByteArray := ⟨#[48, 49, 50, 51, 52, 53, 54, 55, 56, 57]⟩
theorem byt_dgs (d : Nat) (h : d < 10) : byt dgs d = 48 + d := by
  rcases (by omega : d = 0 ∨ d = 1 ∨ d = 2 ∨ d = 3 ∨ d = 4 ∨ d = 5 ∨ d = 6 ∨ d = 7 ∨ d = 8 ∨ d = 9) with rfl | rfl | rfl | rfl | rfl | rfl | rfl | rfl | rfl | rfl <;> rfl
theorem rdB_of {s : ByteArray} (h : isT s) : rdB s = true := by obtain ⟨n, hn, rfl⟩ := h; exact (rd_yes n hn).1
theorem rd_dig {r : ByteArray} (h5 : r.size = 5) {y0 y1 y2 y3 m : Nat} (h0 : byt r 0 = 48 + y0) (h1 : byt r 1 = 48 + y1) (h2 : byt r 2 = 48 + y2) (h3 : byt r 3 = 48 + y3) (g0 : y0 ≤ 9) (g1 : y1 ≤ 9) (g2 : y2 ≤ 9) (g3 : y3 ≤ 9) (h4 : byt r 4 = 65 + m) :
    rdB r = decide ((((y0 * 10 + y1) * 10 + y2) * 10 + y3) % 23 = m) := by
  have hv : val r 4 = ((y0 * 10 + y1) * 10 + y2) * 10 + y3 := by simp only [val, h0, h1, h2, h3, Nat.add_sub_cancel_left]; omega
  rw [Bool.eq_iff_iff, decide_eq_true_iff]
  constructor
  · intro h
    have := ((isT_iff r).1 (isT_of h)).2.2
    rw [h4, hv] at this
    omega
  · intro h
    refine rdB_of ((isT_iff r).2 ⟨h5, fun i hi => ?_, by rw [h4, hv]; omega⟩)
    rcases (by omega : i = 0 ∨ i = 1 ∨ i = 2 ∨ i = 3) with rfl | rfl | rfl | rfl
    · rw [h0]; omega
    · rw [h1]; omega
    · rw [h2]; omega
    · rw [h3]; omega
/-- the digits of a ticket -/
theorem tk_digits (n : Nat) (h : n ≤ 9999) : ∃ x0 x1 x2 x3, x0 ≤ 9 ∧ x1 ≤ 9 ∧ x2 ≤ 9 ∧ x3 ≤ 9 ∧ byt (tkB n) 0 = 48 + x0 ∧ byt (tkB n) 1 = 48 + x1 ∧ byt (tkB n) 2 = 48 + x2 ∧ byt (tkB n) 3 = 48 + x3 ∧ byt (tkB n) 4 = 65 + (((x0 * 10 + x1) * 10 + x2) * 10 + x3) % 23 := by
  obtain ⟨h0, h1, h2, h3, h4⟩ := byt_tk n h
  refine ⟨n / 1000, n / 100 % 10, n / 10 % 10, n % 10, by omega, by omega, by omega, by omega, h0, h1, h2, h3, ?_⟩
  have := dsum n
  rw [Nat.zero_mul, Nat.zero_add] at this
  rw [this, h4]
/-- the text with digit k replaced by d -/
def repl (s : ByteArray) (k d : Nat) : ByteArray := s.extract 0 k ++ dgs.extract d (d + 1) ++ s.extract (k + 1) s.size
theorem repl_rd (n k d : Nat) (h : n ≤ 9999) (hk : k < 4) (hd : d < 10) : rdB (repl (tkB n) k d) = decide (byt (tkB n) k = 48 + d) := by
  obtain ⟨x0, x1, x2, x3, g0, g1, g2, g3, e0, e1, e2, e3, e4⟩ := tk_digits n h
  have hs := tkB_size n
  have hz : dgs.size = 10 := rfl
  have s1 := size_ext (tkB n) 0 k (by omega)
  have s2 := size_ext dgs d (d + 1) (by omega)
  have s3 := size_ext (tkB n) (k + 1) (tkB n).size (Nat.le_refl _)
  have h5 : (repl (tkB n) k d).size = 5 := by unfold repl; rw [size_app, size_app, s1, s2, s3]; omega
  have hb : ∀ i, i < 5 → byt (repl (tkB n) k d) i = if i = k then 48 + d else byt (tkB n) i := fun i hi => by
    unfold repl
    rw [byt_app, size_app, byt_app, s1, s2]
    by_cases q : i < k
    · rw [if_pos (by omega), if_pos (by omega), if_neg (by omega), byt_ext _ _ _ _ (by omega) (by omega), Nat.zero_add]
    · by_cases q2 : i = k
      · subst q2
        rw [if_pos (by omega), if_neg (by omega), if_pos rfl, byt_ext _ _ _ _ (by omega) (by omega), byt_dgs _ (by omega)]; omega
      · rw [if_neg (by omega), if_neg q2, byt_ext _ _ _ _ (by omega) (by omega), show k + 1 + (i - (k - 0 + (d + 1 - d))) = i by omega]
  have b0 := hb 0 (by omega); have b1 := hb 1 (by omega); have b2 := hb 2 (by omega); have b3 := hb 3 (by omega); have b4 := hb 4 (by omega)
  rw [if_neg (by omega), e4] at b4
  rcases (by omega : k = 0 ∨ k = 1 ∨ k = 2 ∨ k = 3) with rfl | rfl | rfl | rfl
  · rw [if_pos rfl] at b0; rw [if_neg (by omega), e1] at b1; rw [if_neg (by omega), e2] at b2; rw [if_neg (by omega), e3] at b3
    rw [rd_dig h5 b0 b1 b2 b3 (by omega) g1 g2 g3 b4, e0, decide_eq_decide]
    clear hb b0 b1 b2 b3 b4 e0 e1 e2 e3 e4
    omega
  · rw [if_neg (by omega), e0] at b0; rw [if_pos rfl] at b1; rw [if_neg (by omega), e2] at b2; rw [if_neg (by omega), e3] at b3
    rw [rd_dig h5 b0 b1 b2 b3 g0 (by omega) g2 g3 b4, e1, decide_eq_decide]
    clear hb b0 b1 b2 b3 b4 e0 e1 e2 e3 e4
    omega
  · rw [if_neg (by omega), e0] at b0; rw [if_neg (by omega), e1] at b1; rw [if_pos rfl] at b2; rw [if_neg (by omega), e3] at b3
    rw [rd_dig h5 b0 b1 b2 b3 g0 g1 (by omega) g3 b4, e2, decide_eq_decide]
    clear hb b0 b1 b2 b3 b4 e0 e1 e2 e3 e4
    omega
  · rw [if_neg (by omega), e0] at b0; rw [if_neg (by omega), e1] at b1; rw [if_neg (by omega), e2] at b2; rw [if_pos rfl] at b3
    rw [rd_dig h5 b0 b1 b2 b3 g0 g1 g2 (by omega) b4, e3, decide_eq_decide]
    clear hb b0 b1 b2 b3 b4 e0 e1 e2 e3 e4
    omega
/-- the text with digits j and k exchanged -/
def swp (s : ByteArray) (j k : Nat) : ByteArray := s.extract 0 j ++ s.extract k (k + 1) ++ s.extract (j + 1) k ++ s.extract j (j + 1) ++ s.extract (k + 1) s.size
theorem swp_rd (n j k : Nat) (h : n ≤ 9999) (hk : k < 4) (hj : j < k) : rdB (swp (tkB n) j k) = decide (byt (tkB n) j = byt (tkB n) k) := by
  obtain ⟨x0, x1, x2, x3, g0, g1, g2, g3, e0, e1, e2, e3, e4⟩ := tk_digits n h
  have hs := tkB_size n
  have s1 := size_ext (tkB n) 0 j (by omega)
  have s2 := size_ext (tkB n) k (k + 1) (by omega)
  have s3 := size_ext (tkB n) (j + 1) k (by omega)
  have s4 := size_ext (tkB n) j (j + 1) (by omega)
  have s5 := size_ext (tkB n) (k + 1) (tkB n).size (Nat.le_refl _)
  have h5 : (swp (tkB n) j k).size = 5 := by unfold swp; rw [size_app, size_app, size_app, size_app, s1, s2, s3, s4, s5]; omega
  have hb : ∀ i, i < 5 → byt (swp (tkB n) j k) i = if i = j then byt (tkB n) k else if i = k then byt (tkB n) j else byt (tkB n) i := fun i hi => by
    unfold swp
    rw [byt_app, size_app, size_app, size_app, byt_app, size_app, size_app, byt_app, size_app, byt_app, s1, s2, s3, s4]
    rcases (by omega : i < j ∨ i = j ∨ (j < i ∧ i < k) ∨ i = k ∨ k < i) with q | q | q | q | q
    · rw [if_pos (by omega), if_pos (by omega), if_pos (by omega), if_pos (by omega), if_neg (by omega), if_neg (by omega), byt_ext _ _ _ _ (by omega) (by omega), Nat.zero_add]
    · subst q
      rw [if_pos (by omega), if_pos (by omega), if_pos (by omega), if_neg (by omega), if_pos rfl, byt_ext _ _ _ _ (by omega) (by omega), show k + (i - (i - 0)) = k by omega]
    · rw [if_pos (by omega), if_pos (by omega), if_neg (by omega), if_neg (by omega), if_neg (by omega), byt_ext _ _ _ _ (by omega) (by omega), show j + 1 + (i - (j - 0 + (k + 1 - k))) = i by omega]
    · subst q
      rw [if_pos (by omega), if_neg (by omega), if_neg (by omega), if_pos rfl, byt_ext _ _ _ _ (by omega) (by omega), show j + (i - (j - 0 + (i + 1 - i) + (i - (j + 1)))) = j by omega]
    · rw [if_neg (by omega), if_neg (by omega), if_neg (by omega), byt_ext _ _ _ _ (by omega) (by omega), show k + 1 + (i - (j - 0 + (k + 1 - k) + (k - (j + 1)) + (j + 1 - j))) = i by omega]
  have b0 := hb 0 (by omega); have b1 := hb 1 (by omega); have b2 := hb 2 (by omega); have b3 := hb 3 (by omega); have b4 := hb 4 (by omega)
  rw [if_neg (by omega), if_neg (by omega), e4] at b4
  rcases (by omega : (j = 0 ∧ k = 1) ∨ (j = 0 ∧ k = 2) ∨ (j = 0 ∧ k = 3) ∨ (j = 1 ∧ k = 2) ∨ (j = 1 ∧ k = 3) ∨ (j = 2 ∧ k = 3)) with ⟨rfl, rfl⟩ | ⟨rfl, rfl⟩ | ⟨rfl, rfl⟩ | ⟨rfl, rfl⟩ | ⟨rfl, rfl⟩ | ⟨rfl, rfl⟩
  all_goals
    simp only [e0, e1, e2, e3, if_true, reduceIte, Nat.reduceEqDiff] at b0 b1 b2 b3
  all_goals
    rw [rd_dig h5 b0 b1 b2 b3 (by omega) (by omega) (by omega) (by omega) b4]
  all_goals
    simp only [e0, e1, e2, e3]
    rw [decide_eq_decide]
    clear hb b0 b1 b2 b3 b4 e0 e1 e2 e3 e4 h5
    omega
end Go.Proofs.YtoiaggjjfahabaaDoor
