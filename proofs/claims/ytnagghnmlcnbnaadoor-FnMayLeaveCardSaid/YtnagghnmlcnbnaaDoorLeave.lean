/- What MayLeave and PayStay compute, of the program and of the reference. No condition. -/
import Derived.Test.YtnagghnmlcnbnaaDoorDue
namespace Go.Proofs.YtnagghnmlcnbnaaDoor
open Go.RowKit

def mlV (f s p c i q a m : Int) : Bool := decide (0 ≤ dueV f s p c i q a m ∧ (dueV f s p c i q a m = 0 ∨ (m - a ≤ 15 ∧ dueV f s p c i q a a = 0)))
theorem dueV_nn {f s p c i q a m : Int} (h : 0 ≤ dueV f s p c i q a m) : tv f s p c = true ∧ sv i q a = true ∧ a ≤ m ∧ m ≤ 9999 := by
  unfold dueV at h
  split at h
  · assumption
  · omega
theorem due_bd {f s p c i q a m : Int} (h : tv f s p c = true) (h' : sv i q a = true) (h0 : a ≤ m) (h1 : m ≤ 9999) : 0 ≤ due f s p c i q m ∧ due f s p c i q m ≤ 693 := by
  obtain ⟨a1, a2, a3, a4, a5, a6⟩ := sv_bd h'
  have := fee_bd (m := m - i) h (by omega) (by omega)
  unfold due
  omega
theorem dueV_bd (f s p c i q a m : Int) : -1 ≤ dueV f s p c i q a m ∧ dueV f s p c i q a m ≤ 693 := by
  unfold dueV
  split
  · rename_i h
    have := due_bd h.1 h.2.1 h.2.2.1 h.2.2.2
    omega
  · omega
theorem MayLeave_s (f s p c i q a m : Int) (w : World) :
    Calls Tryd.prog 25 #[.agg #[.int .i64 f, .int .i64 s, .int .i64 p, .int .i64 c], .agg #[.int .i64 i, .int .i64 q, .int .i64 a], .int .i64 m] w fun e w' => e = .returned (.bool (mlV f s p c i q a m)) ∧ Below w.heap.size w w' := by
  by_cases h0 : dueV f s p c i q a m < 0
  · have y : mlV f s p c i q a m = false := by unfold mlV; rw [decide_eq_false_iff_not]; omega
    go_enter Tryd.func25, Tryd.ntmps25
    go_wp2_with (go_at_call 17; refine (StayDue_s _ _ _ _ _ _ _ _ _).mono ?_; rintro e w' ⟨rfl, hb⟩; (first | (replace hk := kp_step hk hb (by first | omega | (simp; done) | (simp; omega)); clear hb) | (have hk := kp_of (B := w.heap.size + 2) (W := (w.alloc (.cells #[.int .i64 f, .int .i64 s, .int .i64 p, .int .i64 c] 24)).alloc (.cells #[.int .i64 i, .int .i64 q, .int .i64 a] 26)) hb (by first | omega | (simp; done) | (simp; omega)); clear hb)))
    go_ret
    exact ⟨ret_bool (by first | exact y.symm | rfl | (rw [y]; simp; omega)), by (refine kp_end (by assumption) ?_ (by first | omega | (simp; done) | (simp; omega)); (repeat (first | exact Below.refl _ _ | assumption | refine Below.alloc ?_ (by first | omega | (simp; done) | (simp; omega)) _ | refine Below.drew ?_ | refine bdN ?_ _ | refine Below.setCell ?_ (by first | omega | (simp; done) | (simp; omega)) _)))⟩
  · obtain ⟨v1, v2, v3, v4⟩ := dueV_nn (by omega : 0 ≤ dueV f s p c i q a m)
    obtain ⟨a1, a2, a3, a4, a5, a6⟩ := sv_bd v2
    clear v1 v2
    by_cases h1 : dueV f s p c i q a m = 0
    · have x1 : (dueV f s p c i q a m == 0) = true := by simpa using h1
      have y : mlV f s p c i q a m = true := by unfold mlV; rw [decide_eq_true_iff]; omega
      clear h1
      go_enter Tryd.func25, Tryd.ntmps25
      go_wp2_with (go_at_call 17; refine (StayDue_s _ _ _ _ _ _ _ _ _).mono ?_; rintro e w' ⟨rfl, hb⟩; (first | (replace hk := kp_step hk hb (by first | omega | (simp; done) | (simp; omega)); clear hb) | (have hk := kp_of (B := w.heap.size + 2) (W := (w.alloc (.cells #[.int .i64 f, .int .i64 s, .int .i64 p, .int .i64 c] 24)).alloc (.cells #[.int .i64 i, .int .i64 q, .int .i64 a] 26)) hb (by first | omega | (simp; done) | (simp; omega)); clear hb)))
      go_ret
      exact ⟨ret_bool (by first | exact y.symm | rfl | (rw [y]; simp; omega)), by (refine kp_end (by assumption) ?_ (by first | omega | (simp; done) | (simp; omega)); (repeat (first | exact Below.refl _ _ | assumption | refine Below.alloc ?_ (by first | omega | (simp; done) | (simp; omega)) _ | refine Below.drew ?_ | refine bdN ?_ _ | refine Below.setCell ?_ (by first | omega | (simp; done) | (simp; omega)) _)))⟩
    · have x1 : (dueV f s p c i q a m == 0) = false := by simpa using h1
      by_cases h2 : dueV f s p c i q a a = 0
      · have x2 : (dueV f s p c i q a a == 0) = true := by simpa using h2
        by_cases h3 : m - a ≤ 15
        · have y : mlV f s p c i q a m = true := by unfold mlV; rw [decide_eq_true_iff]; omega
          clear h1 h2
          go_enter Tryd.func25, Tryd.ntmps25
          go_wp2_with (go_at_call 17; refine (StayDue_s _ _ _ _ _ _ _ _ _).mono ?_; rintro e w' ⟨rfl, hb⟩; (first | (replace hk := kp_step hk hb (by first | omega | (simp; done) | (simp; omega)); clear hb) | (have hk := kp_of (B := w.heap.size + 2) (W := (w.alloc (.cells #[.int .i64 f, .int .i64 s, .int .i64 p, .int .i64 c] 24)).alloc (.cells #[.int .i64 i, .int .i64 q, .int .i64 a] 26)) hb (by first | omega | (simp; done) | (simp; omega)); clear hb)))
          go_ret
          exact ⟨ret_bool (by first | exact y.symm | rfl | (rw [y]; simp; omega)), by (refine kp_end (by assumption) ?_ (by first | omega | (simp; done) | (simp; omega)); (repeat (first | exact Below.refl _ _ | assumption | refine Below.alloc ?_ (by first | omega | (simp; done) | (simp; omega)) _ | refine Below.drew ?_ | refine bdN ?_ _ | refine Below.setCell ?_ (by first | omega | (simp; done) | (simp; omega)) _)))⟩
        · have y : mlV f s p c i q a m = false := by unfold mlV; rw [decide_eq_false_iff_not]; omega
          clear h1 h2
          go_enter Tryd.func25, Tryd.ntmps25
          go_wp2_with (go_at_call 17; refine (StayDue_s _ _ _ _ _ _ _ _ _).mono ?_; rintro e w' ⟨rfl, hb⟩; (first | (replace hk := kp_step hk hb (by first | omega | (simp; done) | (simp; omega)); clear hb) | (have hk := kp_of (B := w.heap.size + 2) (W := (w.alloc (.cells #[.int .i64 f, .int .i64 s, .int .i64 p, .int .i64 c] 24)).alloc (.cells #[.int .i64 i, .int .i64 q, .int .i64 a] 26)) hb (by first | omega | (simp; done) | (simp; omega)); clear hb)))
          go_ret
          exact ⟨ret_bool (by first | exact y.symm | rfl | (rw [y]; simp; omega)), by (refine kp_end (by assumption) ?_ (by first | omega | (simp; done) | (simp; omega)); (repeat (first | exact Below.refl _ _ | assumption | refine Below.alloc ?_ (by first | omega | (simp; done) | (simp; omega)) _ | refine Below.drew ?_ | refine bdN ?_ _ | refine Below.setCell ?_ (by first | omega | (simp; done) | (simp; omega)) _)))⟩
      · have x2 : (dueV f s p c i q a a == 0) = false := by simpa using h2
        have y : mlV f s p c i q a m = false := by unfold mlV; rw [decide_eq_false_iff_not]; omega
        by_cases h3 : m - a ≤ 15
        · clear h1 h2
          go_enter Tryd.func25, Tryd.ntmps25
          go_wp2_with (go_at_call 17; refine (StayDue_s _ _ _ _ _ _ _ _ _).mono ?_; rintro e w' ⟨rfl, hb⟩; (first | (replace hk := kp_step hk hb (by first | omega | (simp; done) | (simp; omega)); clear hb) | (have hk := kp_of (B := w.heap.size + 2) (W := (w.alloc (.cells #[.int .i64 f, .int .i64 s, .int .i64 p, .int .i64 c] 24)).alloc (.cells #[.int .i64 i, .int .i64 q, .int .i64 a] 26)) hb (by first | omega | (simp; done) | (simp; omega)); clear hb)))
          go_ret
          exact ⟨ret_bool (by first | exact y.symm | rfl | (rw [y]; simp; omega)), by (refine kp_end (by assumption) ?_ (by first | omega | (simp; done) | (simp; omega)); (repeat (first | exact Below.refl _ _ | assumption | refine Below.alloc ?_ (by first | omega | (simp; done) | (simp; omega)) _ | refine Below.drew ?_ | refine bdN ?_ _ | refine Below.setCell ?_ (by first | omega | (simp; done) | (simp; omega)) _)))⟩
        · clear h1 h2
          go_enter Tryd.func25, Tryd.ntmps25
          go_wp2_with (go_at_call 17; refine (StayDue_s _ _ _ _ _ _ _ _ _).mono ?_; rintro e w' ⟨rfl, hb⟩; (first | (replace hk := kp_step hk hb (by first | omega | (simp; done) | (simp; omega)); clear hb) | (have hk := kp_of (B := w.heap.size + 2) (W := (w.alloc (.cells #[.int .i64 f, .int .i64 s, .int .i64 p, .int .i64 c] 24)).alloc (.cells #[.int .i64 i, .int .i64 q, .int .i64 a] 26)) hb (by first | omega | (simp; done) | (simp; omega)); clear hb)))
          go_ret
          exact ⟨ret_bool (by first | exact y.symm | rfl | (rw [y]; simp; omega)), by (refine kp_end (by assumption) ?_ (by first | omega | (simp; done) | (simp; omega)); (repeat (first | exact Below.refl _ _ | assumption | refine Below.alloc ?_ (by first | omega | (simp; done) | (simp; omega)) _ | refine Below.drew ?_ | refine bdN ?_ _ | refine Below.setCell ?_ (by first | omega | (simp; done) | (simp; omega)) _)))⟩
theorem MayLeave_i (f s p c i q a m : Int) (w : World) :
    Calls Tryd.prog 24 #[.agg #[.int .i64 f, .int .i64 s, .int .i64 p, .int .i64 c], .agg #[.int .i64 i, .int .i64 q, .int .i64 a], .int .i64 m] w fun e w' => e = .returned (.bool (mlV f s p c i q a m)) ∧ Below w.heap.size w w' := by
  by_cases h0 : dueV f s p c i q a m < 0
  · have y : mlV f s p c i q a m = false := by unfold mlV; rw [decide_eq_false_iff_not]; omega
    go_enter Tryd.func24, Tryd.ntmps24
    go_wp2_with (go_at_call 16; refine (StayDue_i _ _ _ _ _ _ _ _ _).mono ?_; rintro e w' ⟨rfl, hb⟩; (first | (replace hk := kp_step hk hb (by first | omega | (simp; done) | (simp; omega)); clear hb) | (have hk := kp_of (B := w.heap.size + 2) (W := (w.alloc (.cells #[.int .i64 f, .int .i64 s, .int .i64 p, .int .i64 c] 24)).alloc (.cells #[.int .i64 i, .int .i64 q, .int .i64 a] 26)) hb (by first | omega | (simp; done) | (simp; omega)); clear hb)))
    go_ret
    exact ⟨ret_bool (by first | exact y.symm | rfl | (rw [y]; simp; omega)), by (refine kp_end (by assumption) ?_ (by first | omega | (simp; done) | (simp; omega)); (repeat (first | exact Below.refl _ _ | assumption | refine Below.alloc ?_ (by first | omega | (simp; done) | (simp; omega)) _ | refine Below.drew ?_ | refine bdN ?_ _ | refine Below.setCell ?_ (by first | omega | (simp; done) | (simp; omega)) _)))⟩
  · obtain ⟨v1, v2, v3, v4⟩ := dueV_nn (by omega : 0 ≤ dueV f s p c i q a m)
    obtain ⟨a1, a2, a3, a4, a5, a6⟩ := sv_bd v2
    clear v1 v2
    by_cases h1 : dueV f s p c i q a m = 0
    · have x1 : (dueV f s p c i q a m == 0) = true := by simpa using h1
      have y : mlV f s p c i q a m = true := by unfold mlV; rw [decide_eq_true_iff]; omega
      clear h1
      go_enter Tryd.func24, Tryd.ntmps24
      go_wp2_with (go_at_call 16; refine (StayDue_i _ _ _ _ _ _ _ _ _).mono ?_; rintro e w' ⟨rfl, hb⟩; (first | (replace hk := kp_step hk hb (by first | omega | (simp; done) | (simp; omega)); clear hb) | (have hk := kp_of (B := w.heap.size + 2) (W := (w.alloc (.cells #[.int .i64 f, .int .i64 s, .int .i64 p, .int .i64 c] 24)).alloc (.cells #[.int .i64 i, .int .i64 q, .int .i64 a] 26)) hb (by first | omega | (simp; done) | (simp; omega)); clear hb)))
      go_ret
      exact ⟨ret_bool (by first | exact y.symm | rfl | (rw [y]; simp; omega)), by (refine kp_end (by assumption) ?_ (by first | omega | (simp; done) | (simp; omega)); (repeat (first | exact Below.refl _ _ | assumption | refine Below.alloc ?_ (by first | omega | (simp; done) | (simp; omega)) _ | refine Below.drew ?_ | refine bdN ?_ _ | refine Below.setCell ?_ (by first | omega | (simp; done) | (simp; omega)) _)))⟩
    · have x1 : (dueV f s p c i q a m == 0) = false := by simpa using h1
      by_cases h2 : dueV f s p c i q a a = 0
      · have x2 : (dueV f s p c i q a a == 0) = true := by simpa using h2
        by_cases h3 : m - a ≤ 15
        · have y : mlV f s p c i q a m = true := by unfold mlV; rw [decide_eq_true_iff]; omega
          clear h1 h2
          go_enter Tryd.func24, Tryd.ntmps24
          go_wp2_with (go_at_call 16; refine (StayDue_i _ _ _ _ _ _ _ _ _).mono ?_; rintro e w' ⟨rfl, hb⟩; (first | (replace hk := kp_step hk hb (by first | omega | (simp; done) | (simp; omega)); clear hb) | (have hk := kp_of (B := w.heap.size + 2) (W := (w.alloc (.cells #[.int .i64 f, .int .i64 s, .int .i64 p, .int .i64 c] 24)).alloc (.cells #[.int .i64 i, .int .i64 q, .int .i64 a] 26)) hb (by first | omega | (simp; done) | (simp; omega)); clear hb)))
          go_ret
          exact ⟨ret_bool (by first | exact y.symm | rfl | (rw [y]; simp; omega)), by (refine kp_end (by assumption) ?_ (by first | omega | (simp; done) | (simp; omega)); (repeat (first | exact Below.refl _ _ | assumption | refine Below.alloc ?_ (by first | omega | (simp; done) | (simp; omega)) _ | refine Below.drew ?_ | refine bdN ?_ _ | refine Below.setCell ?_ (by first | omega | (simp; done) | (simp; omega)) _)))⟩
        · have y : mlV f s p c i q a m = false := by unfold mlV; rw [decide_eq_false_iff_not]; omega
          clear h1 h2
          go_enter Tryd.func24, Tryd.ntmps24
          go_wp2_with (go_at_call 16; refine (StayDue_i _ _ _ _ _ _ _ _ _).mono ?_; rintro e w' ⟨rfl, hb⟩; (first | (replace hk := kp_step hk hb (by first | omega | (simp; done) | (simp; omega)); clear hb) | (have hk := kp_of (B := w.heap.size + 2) (W := (w.alloc (.cells #[.int .i64 f, .int .i64 s, .int .i64 p, .int .i64 c] 24)).alloc (.cells #[.int .i64 i, .int .i64 q, .int .i64 a] 26)) hb (by first | omega | (simp; done) | (simp; omega)); clear hb)))
          go_ret
          exact ⟨ret_bool (by first | exact y.symm | rfl | (rw [y]; simp; omega)), by (refine kp_end (by assumption) ?_ (by first | omega | (simp; done) | (simp; omega)); (repeat (first | exact Below.refl _ _ | assumption | refine Below.alloc ?_ (by first | omega | (simp; done) | (simp; omega)) _ | refine Below.drew ?_ | refine bdN ?_ _ | refine Below.setCell ?_ (by first | omega | (simp; done) | (simp; omega)) _)))⟩
      · have x2 : (dueV f s p c i q a a == 0) = false := by simpa using h2
        have y : mlV f s p c i q a m = false := by unfold mlV; rw [decide_eq_false_iff_not]; omega
        by_cases h3 : m - a ≤ 15
        · clear h1 h2
          go_enter Tryd.func24, Tryd.ntmps24
          go_wp2_with (go_at_call 16; refine (StayDue_i _ _ _ _ _ _ _ _ _).mono ?_; rintro e w' ⟨rfl, hb⟩; (first | (replace hk := kp_step hk hb (by first | omega | (simp; done) | (simp; omega)); clear hb) | (have hk := kp_of (B := w.heap.size + 2) (W := (w.alloc (.cells #[.int .i64 f, .int .i64 s, .int .i64 p, .int .i64 c] 24)).alloc (.cells #[.int .i64 i, .int .i64 q, .int .i64 a] 26)) hb (by first | omega | (simp; done) | (simp; omega)); clear hb)))
          go_ret
          exact ⟨ret_bool (by first | exact y.symm | rfl | (rw [y]; simp; omega)), by (refine kp_end (by assumption) ?_ (by first | omega | (simp; done) | (simp; omega)); (repeat (first | exact Below.refl _ _ | assumption | refine Below.alloc ?_ (by first | omega | (simp; done) | (simp; omega)) _ | refine Below.drew ?_ | refine bdN ?_ _ | refine Below.setCell ?_ (by first | omega | (simp; done) | (simp; omega)) _)))⟩
        · clear h1 h2
          go_enter Tryd.func24, Tryd.ntmps24
          go_wp2_with (go_at_call 16; refine (StayDue_i _ _ _ _ _ _ _ _ _).mono ?_; rintro e w' ⟨rfl, hb⟩; (first | (replace hk := kp_step hk hb (by first | omega | (simp; done) | (simp; omega)); clear hb) | (have hk := kp_of (B := w.heap.size + 2) (W := (w.alloc (.cells #[.int .i64 f, .int .i64 s, .int .i64 p, .int .i64 c] 24)).alloc (.cells #[.int .i64 i, .int .i64 q, .int .i64 a] 26)) hb (by first | omega | (simp; done) | (simp; omega)); clear hb)))
          go_ret
          exact ⟨ret_bool (by first | exact y.symm | rfl | (rw [y]; simp; omega)), by (refine kp_end (by assumption) ?_ (by first | omega | (simp; done) | (simp; omega)); (repeat (first | exact Below.refl _ _ | assumption | refine Below.alloc ?_ (by first | omega | (simp; done) | (simp; omega)) _ | refine Below.drew ?_ | refine bdN ?_ _ | refine Below.setCell ?_ (by first | omega | (simp; done) | (simp; omega)) _)))⟩
end Go.Proofs.YtnagghnmlcnbnaaDoor
