/- What FeeSteps and FeeOf compute, of the program and of the reference. No condition. -/
import Derived.Test.YtjijaejlcbailaaDoorSc
namespace Go.Proofs.YtjijaejlcbailaaDoor
open Go.RowKit

def fsteps (f s m : Int) : Int := if m ≤ f then 0 else (m - f + s - 1) / s
def fstepsV (f s p c m : Int) : Int := if tv f s p c = true ∧ 0 ≤ m ∧ m ≤ 9999 then fsteps f s m else -1
def fee (f s p c m : Int) : Int := m / 1440 * c + min (fsteps f s (m % 1440) * p) c
def feeV (f s p c m : Int) : Int := if tv f s p c = true ∧ 0 ≤ m ∧ m ≤ 9999 then fee f s p c m else -1

theorem fsteps_bd (f s m : Int) (hf : 0 ≤ f) (hs : 1 ≤ s) (hm : m ≤ 9999) : 0 ≤ fsteps f s m ∧ fsteps f s m ≤ 9999 := by
  unfold fsteps
  split
  · omega
  · have h1 : 0 ≤ (m - f + s - 1) / s := Int.ediv_nonneg (by omega) (by omega)
    have h2 : (m - f + s - 1) / s ≤ m - f := by
      apply Int.ediv_le_of_le_mul (by omega)
      have : (m - f - 1) * 1 ≤ (m - f - 1) * s := Int.mul_le_mul_of_nonneg_left hs (by omega)
      have e : (m - f) * s = (m - f - 1) * s + s := by rw [Int.sub_mul (m - f) 1 s]; omega
      omega
    omega
theorem mul_bd (a b x y : Int) (ha : 0 ≤ a) (hb : 0 ≤ b) (hx : a ≤ x) (hy : b ≤ y) : 0 ≤ a * b ∧ a * b ≤ x * y :=
  ⟨Int.mul_nonneg ha hb, Int.mul_le_mul hx hy hb (by omega)⟩
theorem tv_bd {f s p c : Int} (h : tv f s p c = true) : 0 ≤ f ∧ f ≤ 1439 ∧ 1 ≤ s ∧ s ≤ 1440 ∧ 0 ≤ p ∧ p ≤ 99 ∧ 0 ≤ c ∧ c ≤ 99 := by simpa [tv] using h
theorem fee_bd {f s p c m : Int} (h : tv f s p c = true) (h0 : 0 ≤ m) (h1 : m ≤ 9999) : 0 ≤ fee f s p c m ∧ fee f s p c m ≤ 693 := by
  obtain ⟨a1, a2, a3, a4, a5, a6, a7, a8⟩ := tv_bd h
  have b1 := fsteps_bd f s (m % 1440) a1 a3 (by omega)
  have b2 := mul_bd _ p _ 99 b1.1 a5 b1.2 a6
  have b3 := mul_bd (m / 1440) c 6 99 (by omega) a7 (by omega) a8
  unfold fee
  omega

theorem FeeSteps_i_yes (f s p c m : Int) (w : World) (h : tv f s p c = true) (h0 : 0 ≤ m) (h1 : m ≤ 9999) :
    Calls Tryd.prog 72 #[.agg #[.int .i64 f, .int .i64 s, .int .i64 p, .int .i64 c], .int .i64 m] w fun e w' => e = .returned (.int .i64 (fsteps f s m)) ∧ Below w.heap.size w w' := by
  obtain ⟨a1, a2, a3, a4, a5, a6, a7, a8⟩ := tv_bd h
  have hs : (s == 0) = false := by simp; omega
  by_cases hm : m ≤ f
  all_goals
    go_enter Tryd.func72, Tryd.ntmps72
    go_wp2_with (go_at_call 71; refine (TariffValid_i _ _ _ _ _).mono ?_; rintro e w' ⟨rfl, hb⟩; have hc := (bcell hb).1)
    go_ret
    refine ⟨ret_int (by first | rw [fsteps, if_pos hm] | rw [fsteps, if_neg (by omega)]), ?_⟩
    refine Below.trans ?_ (hb.mono (by simp))
    (repeat (first | exact Below.refl _ _ | assumption | refine Below.alloc ?_ (by first | omega | (simp; done) | (simp; omega)) _ | refine Below.drew ?_ | refine bdN ?_ _ | refine Below.setCell ?_ (by first | omega | (simp; done) | (simp; omega)) _))
theorem FeeSteps_s_yes (f s p c m : Int) (w : World) (h : tv f s p c = true) (h0 : 0 ≤ m) (h1 : m ≤ 9999) :
    Calls Tryd.prog 87 #[.agg #[.int .i64 f, .int .i64 s, .int .i64 p, .int .i64 c], .int .i64 m] w fun e w' => e = .returned (.int .i64 (fsteps f s m)) ∧ Below w.heap.size w w' := by
  obtain ⟨a1, a2, a3, a4, a5, a6, a7, a8⟩ := tv_bd h
  have hs : (s == 0) = false := by simp; omega
  have hr : inR m 0 9999 = true := inR_yes ⟨h0, h1⟩
  by_cases hx : m - f < 0
  all_goals
    go_enter Tryd.func87, Tryd.ntmps87
    go_wp2_with (first | (go_at_call 93; refine (TariffValid_s _ _ _ _ _).mono ?_; rintro e w' ⟨rfl, hb⟩; have hc := (bcell hb).1) | (go_at_call 65; refine (l1In_any _ _ _ _).mono ?_; rintro e w' ⟨rfl, rfl⟩))
    go_ret
    refine ⟨ret_int ?_, by refine Below.trans ?_ (hb.mono (by simp)); (repeat (first | exact Below.refl _ _ | assumption | refine Below.alloc ?_ (by first | omega | (simp; done) | (simp; omega)) _ | refine Below.drew ?_ | refine bdN ?_ _ | refine Below.setCell ?_ (by first | omega | (simp; done) | (simp; omega)) _))⟩
    unfold fsteps
    split
    · apply Int.ediv_eq_zero_of_lt <;> omega
    · first | rfl | omega
theorem FeeSteps_i_no (f s p c m : Int) (w : World) (hn : ¬ (tv f s p c = true ∧ 0 ≤ m ∧ m ≤ 9999)) :
    Calls Tryd.prog 72 #[.agg #[.int .i64 f, .int .i64 s, .int .i64 p, .int .i64 c], .int .i64 m] w fun e w' => e = .returned (.int .i64 (-1)) ∧ Below w.heap.size w w' := by
  rcases (show tv f s p c = false ∨ (tv f s p c = true ∧ m < 0) ∨ (tv f s p c = true ∧ 0 ≤ m ∧ 9999 < m) from by revert hn; cases tv f s p c <;> simp <;> omega) with h | ⟨h, h0⟩ | ⟨h, h0, h1⟩
  all_goals
    clear hn
    try have hr : inR m 0 9999 = false := inR_no (by omega)
    go_enter Tryd.func72, Tryd.ntmps72
    go_wp2_with (go_at_call 71; refine (TariffValid_i _ _ _ _ _).mono ?_; rintro e w' ⟨rfl, hb⟩; have hc := (bcell hb).1)
    go_ret
    refine ⟨rfl, ?_⟩
    refine Below.trans ?_ (hb.mono (by simp))
    (repeat (first | exact Below.refl _ _ | assumption | refine Below.alloc ?_ (by first | omega | (simp; done) | (simp; omega)) _ | refine Below.drew ?_ | refine bdN ?_ _ | refine Below.setCell ?_ (by first | omega | (simp; done) | (simp; omega)) _))
theorem FeeSteps_s_no (f s p c m : Int) (w : World) (hn : ¬ (tv f s p c = true ∧ 0 ≤ m ∧ m ≤ 9999)) :
    Calls Tryd.prog 87 #[.agg #[.int .i64 f, .int .i64 s, .int .i64 p, .int .i64 c], .int .i64 m] w fun e w' => e = .returned (.int .i64 (-1)) ∧ Below w.heap.size w w' := by
  rcases (show tv f s p c = false ∨ (tv f s p c = true ∧ m < 0) ∨ (tv f s p c = true ∧ 0 ≤ m ∧ 9999 < m) from by revert hn; cases tv f s p c <;> simp <;> omega) with h | ⟨h, h0⟩ | ⟨h, h0, h1⟩
  all_goals
    clear hn
    try have hr : inR m 0 9999 = false := inR_no (by omega)
    go_enter Tryd.func87, Tryd.ntmps87
    go_wp2_with (first | (go_at_call 93; refine (TariffValid_s _ _ _ _ _).mono ?_; rintro e w' ⟨rfl, hb⟩; have hc := (bcell hb).1) | (go_at_call 65; refine (l1In_any _ _ _ _).mono ?_; rintro e w' ⟨rfl, rfl⟩))
    go_ret
    refine ⟨rfl, ?_⟩
    refine Below.trans ?_ (hb.mono (by simp))
    (repeat (first | exact Below.refl _ _ | assumption | refine Below.alloc ?_ (by first | omega | (simp; done) | (simp; omega)) _ | refine Below.drew ?_ | refine bdN ?_ _ | refine Below.setCell ?_ (by first | omega | (simp; done) | (simp; omega)) _))
theorem FeeSteps_i (f s p c m : Int) (w : World) :
    Calls Tryd.prog 72 #[.agg #[.int .i64 f, .int .i64 s, .int .i64 p, .int .i64 c], .int .i64 m] w fun e w' => e = .returned (.int .i64 (fstepsV f s p c m)) ∧ Below w.heap.size w w' := by
  by_cases hn : tv f s p c = true ∧ 0 ≤ m ∧ m ≤ 9999
  · rw [fstepsV, if_pos hn]; exact FeeSteps_i_yes f s p c m w hn.1 hn.2.1 hn.2.2
  · rw [fstepsV, if_neg hn]; exact FeeSteps_i_no f s p c m w hn
theorem FeeSteps_s (f s p c m : Int) (w : World) :
    Calls Tryd.prog 87 #[.agg #[.int .i64 f, .int .i64 s, .int .i64 p, .int .i64 c], .int .i64 m] w fun e w' => e = .returned (.int .i64 (fstepsV f s p c m)) ∧ Below w.heap.size w w' := by
  by_cases hn : tv f s p c = true ∧ 0 ≤ m ∧ m ≤ 9999
  · rw [fstepsV, if_pos hn]; exact FeeSteps_s_yes f s p c m w hn.1 hn.2.1 hn.2.2
  · rw [fstepsV, if_neg hn]; exact FeeSteps_s_no f s p c m w hn

theorem FeeOf_i_yes (f s p c m : Int) (w : World) (h : tv f s p c = true) (h0 : 0 ≤ m) (h1 : m ≤ 9999) :
    Calls Tryd.prog 28 #[.agg #[.int .i64 f, .int .i64 s, .int .i64 p, .int .i64 c], .int .i64 m] w fun e w' => e = .returned (.int .i64 (fee f s p c m)) ∧ Below w.heap.size w w' := by
  obtain ⟨a1, a2, a3, a4, a5, a6, a7, a8⟩ := tv_bd h
  have b0 : 0 ≤ m % 1440 ∧ m % 1440 ≤ 9999 := by omega
  have b1 := fsteps_bd f s (m % 1440) a1 a3 (by omega)
  have b2 := mul_bd _ p _ 99 b1.1 a5 b1.2 a6
  have b3 := mul_bd (m / 1440) c 6 99 (by omega) a7 (by omega) a8
  go_enter Tryd.func28, Tryd.ntmps28
  go_wp2_with (go_at_call 71; refine (TariffValid_i _ _ _ _ _).mono ?_; rintro e w' ⟨rfl, hb⟩; have hc := (bcell hb).1)
  go_region_held3 (fun w' => Below (w.heap.size + 1) (w.alloc (.cells #[.int .i64 f, .int .i64 s, .int .i64 p, .int .i64 c] 42)) w' ∧ ∀ k o, k < w.heap.size + 1 → w'.cell? ⟨k, o, none⟩ = World.cell? (w.alloc (.cells #[.int .i64 f, .int .i64 s, .int .i64 p, .int .i64 c] 42)) ⟨k, o, none⟩) (first | assumption | exact kp_start | (refine kp_step ?_ hb ?_; assumption; (first | omega | (simp; done) | (simp; omega))) | (refine kp_drew ?_; assumption) | (refine kp_drew (kp_of hb ?_); (first | omega | (simp; done) | (simp; omega)))) (first | (go_at_call 72; refine (FeeSteps_i_yes _ _ _ _ _ _ h (by omega) (by omega)).mono ?_; rintro e w' ⟨rfl, hb⟩))
  go_wp2
  all_goals
    go_ret
    refine ⟨ret_int ?_, by (refine kp_end (by assumption) ?_ (by first | omega | (simp; done) | (simp; omega)); (repeat (first | exact Below.refl _ _ | assumption | refine Below.alloc ?_ (by first | omega | (simp; done) | (simp; omega)) _ | refine Below.drew ?_ | refine bdN ?_ _ | refine Below.setCell ?_ (by first | omega | (simp; done) | (simp; omega)) _)))⟩
    clear hb
    have e1 := IntWalk.i64_in (m / 1440 * c) (by omega)
    have e2 := IntWalk.i64_in (fsteps f s (m % 1440) * p) (by omega)
    have e3 := IntWalk.i64_in (m / 1440) (by omega)
    simp only [e1, e2, e3] at *
    rw [IntWalk.i64_in _ (by (try split) <;> omega)]
    unfold fee
    (try split) <;> omega
theorem FeeOf_s_yes (f s p c m : Int) (w : World) (h : tv f s p c = true) (h0 : 0 ≤ m) (h1 : m ≤ 9999) :
    Calls Tryd.prog 70 #[.agg #[.int .i64 f, .int .i64 s, .int .i64 p, .int .i64 c], .int .i64 m] w fun e w' => e = .returned (.int .i64 (fee f s p c m)) ∧ Below w.heap.size w w' := by
  obtain ⟨a1, a2, a3, a4, a5, a6, a7, a8⟩ := tv_bd h
  have b0 : 0 ≤ m % 1440 ∧ m % 1440 ≤ 9999 := by omega
  have b1 := fsteps_bd f s (m % 1440) a1 a3 (by omega)
  have b2 := mul_bd _ p _ 99 b1.1 a5 b1.2 a6
  have b3 := mul_bd (m / 1440) c 6 99 (by omega) a7 (by omega) a8
  have b5 := fsteps_bd f s m a1 a3 h1
  have q1 : m.tdiv 1440 = m / 1440 := Int.tdiv_eq_ediv_of_nonneg h0
  have q2 : m.tmod 1440 = m % 1440 := Int.tmod_eq_emod_of_nonneg h0
  go_enter Tryd.func70, Tryd.ntmps70
  go_wp2_with (go_at_call 87; refine (FeeSteps_s_yes _ _ _ _ _ _ h (by omega) (by omega)).mono ?_; rintro e w' ⟨rfl, hb⟩; have hc := (bcell hb).1)
  go_region_held3 (fun w' => Below (w.heap.size + 1) (w.alloc (.cells #[.int .i64 f, .int .i64 s, .int .i64 p, .int .i64 c] 42)) w' ∧ ∀ k o, k < w.heap.size + 1 → w'.cell? ⟨k, o, none⟩ = World.cell? (w.alloc (.cells #[.int .i64 f, .int .i64 s, .int .i64 p, .int .i64 c] 42)) ⟨k, o, none⟩) (first | assumption | exact kp_start | (refine kp_step ?_ hb ?_; assumption; (first | omega | (simp; done) | (simp; omega))) | (refine kp_drew ?_; assumption) | (refine kp_drew (kp_of hb ?_); (first | omega | (simp; done) | (simp; omega)))) (first | (go_at_call 87; refine (FeeSteps_s_yes _ _ _ _ _ _ h (by omega) (by omega)).mono ?_; rintro e w' ⟨rfl, hb⟩))
  go_wp2
  all_goals
    go_ret
    refine ⟨ret_int ?_, by (refine kp_end (by assumption) ?_ (by first | omega | (simp; done) | (simp; omega)); (repeat (first | exact Below.refl _ _ | assumption | refine Below.alloc ?_ (by first | omega | (simp; done) | (simp; omega)) _ | refine Below.drew ?_ | refine bdN ?_ _ | refine Below.setCell ?_ (by first | omega | (simp; done) | (simp; omega)) _)))⟩
    clear hb
    have e1 := IntWalk.i64_in (m / 1440 * c) (by omega)
    have e2 := IntWalk.i64_in (fsteps f s (m % 1440) * p) (by omega)
    have e3 := IntWalk.i64_in (m / 1440) (by omega)
    simp only [e1, e2, e3] at *
    rw [IntWalk.i64_in _ (by (try split) <;> omega)]
    unfold fee
    (try split) <;> omega
theorem FeeOf_s_no (f s p c m : Int) (w : World) (hn : ¬ (tv f s p c = true ∧ 0 ≤ m ∧ m ≤ 9999)) :
    Calls Tryd.prog 70 #[.agg #[.int .i64 f, .int .i64 s, .int .i64 p, .int .i64 c], .int .i64 m] w fun e w' => e = .returned (.int .i64 (-1)) ∧ Below w.heap.size w w' := by
  go_enter Tryd.func70, Tryd.ntmps70
  go_wp2_with (go_at_call 87; refine (FeeSteps_s_no _ _ _ _ _ _ hn).mono ?_; rintro e w' ⟨rfl, hb⟩; have hc := (bcell hb).1)
  go_ret
  refine ⟨rfl, ?_⟩
  refine Below.trans ?_ (hb.mono (by simp))
  (repeat (first | exact Below.refl _ _ | assumption | refine Below.alloc ?_ (by first | omega | (simp; done) | (simp; omega)) _ | refine Below.drew ?_ | refine bdN ?_ _ | refine Below.setCell ?_ (by first | omega | (simp; done) | (simp; omega)) _))
theorem FeeOf_i_no (f s p c m : Int) (w : World) (hn : ¬ (tv f s p c = true ∧ 0 ≤ m ∧ m ≤ 9999)) :
    Calls Tryd.prog 28 #[.agg #[.int .i64 f, .int .i64 s, .int .i64 p, .int .i64 c], .int .i64 m] w fun e w' => e = .returned (.int .i64 (-1)) ∧ Below w.heap.size w w' := by
  rcases (show tv f s p c = false ∨ (tv f s p c = true ∧ m < 0) ∨ (tv f s p c = true ∧ 0 ≤ m ∧ 9999 < m) from by revert hn; cases tv f s p c <;> simp <;> omega) with h | ⟨h, h0⟩ | ⟨h, h0, h1⟩
  all_goals
    clear hn
    go_enter Tryd.func28, Tryd.ntmps28
    go_wp2_with (go_at_call 71; refine (TariffValid_i _ _ _ _ _).mono ?_; rintro e w' ⟨rfl, hb⟩; have hc := (bcell hb).1)
    go_ret
    refine ⟨rfl, ?_⟩
    refine Below.trans ?_ (hb.mono (by simp))
    (repeat (first | exact Below.refl _ _ | assumption | refine Below.alloc ?_ (by first | omega | (simp; done) | (simp; omega)) _ | refine Below.drew ?_ | refine bdN ?_ _ | refine Below.setCell ?_ (by first | omega | (simp; done) | (simp; omega)) _))
theorem FeeOf_i (f s p c m : Int) (w : World) :
    Calls Tryd.prog 28 #[.agg #[.int .i64 f, .int .i64 s, .int .i64 p, .int .i64 c], .int .i64 m] w fun e w' => e = .returned (.int .i64 (feeV f s p c m)) ∧ Below w.heap.size w w' := by
  by_cases hn : tv f s p c = true ∧ 0 ≤ m ∧ m ≤ 9999
  · rw [feeV, if_pos hn]; exact FeeOf_i_yes f s p c m w hn.1 hn.2.1 hn.2.2
  · rw [feeV, if_neg hn]; exact FeeOf_i_no f s p c m w hn
theorem FeeOf_s (f s p c m : Int) (w : World) :
    Calls Tryd.prog 70 #[.agg #[.int .i64 f, .int .i64 s, .int .i64 p, .int .i64 c], .int .i64 m] w fun e w' => e = .returned (.int .i64 (feeV f s p c m)) ∧ Below w.heap.size w w' := by
  by_cases hn : tv f s p c = true ∧ 0 ≤ m ∧ m ≤ 9999
  · rw [feeV, if_pos hn]; exact FeeOf_s_yes f s p c m w hn.1 hn.2.1 hn.2.2
  · rw [feeV, if_neg hn]; exact FeeOf_s_no f s p c m w hn
end Go.Proofs.YtjijaejlcbailaaDoor
