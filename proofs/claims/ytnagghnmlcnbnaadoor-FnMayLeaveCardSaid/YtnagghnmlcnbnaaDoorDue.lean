/- What StayDue and FeeLong compute, of the program and of the reference. No condition. -/
import Derived.Test.YtnagghnmlcnbnaaDoorFee
namespace Go.Proofs.YtnagghnmlcnbnaaDoor
open Go.RowKit

def due (f s p c i q m : Int) : Int := max (fee f s p c (m - i) - q) 0
def dueV (f s p c i q a m : Int) : Int := if tv f s p c = true ∧ sv i q a = true ∧ a ≤ m ∧ m ≤ 9999 then due f s p c i q m else -1
theorem sv_bd {i q a : Int} (h : sv i q a = true) : 0 ≤ i ∧ i ≤ 9999 ∧ 0 ≤ q ∧ q ≤ 9999 ∧ i ≤ a ∧ a ≤ 9999 := by simpa [sv] using h
theorem StayDue_i_yes (f s p c i q a m : Int) (w : World) (h : tv f s p c = true) (h' : sv i q a = true) (h0 : a ≤ m) (h1 : m ≤ 9999) :
    Calls Tryd.prog 16 #[.agg #[.int .i64 f, .int .i64 s, .int .i64 p, .int .i64 c], .agg #[.int .i64 i, .int .i64 q, .int .i64 a], .int .i64 m] w fun e w' => e = .returned (.int .i64 (due f s p c i q m)) ∧ Below w.heap.size w w' := by
  obtain ⟨a1, a2, a3, a4, a5, a6⟩ := sv_bd h'
  have b1 := fee_bd (m := m - i) h (by omega) (by omega)
  have hr : inR m a 9999 = true := inR_yes ⟨h0, h1⟩
  have e1 : IntKind.i64.wrap (m - i) = m - i := IntWalk.i64_in _ (by omega)
  go_enter Tryd.func16, Tryd.ntmps16
  go_wp2_with (first | (go_at_call 65; refine (TariffValid_i _ _ _ _ _).mono ?_; rintro e w' ⟨rfl, hb⟩; (first | (replace hk := kp_step hk hb (by first | omega | (simp; done) | (simp; omega)); clear hb) | (have hk := kp_of (B := w.heap.size + 2) (W := (w.alloc (.cells #[.int .i64 f, .int .i64 s, .int .i64 p, .int .i64 c] 24)).alloc (.cells #[.int .i64 i, .int .i64 q, .int .i64 a] 26)) hb (by first | omega | (simp; done) | (simp; omega)); clear hb))) | (go_at_call 22; refine (StayValid_i _ _ _ _).mono ?_; rintro e w' ⟨rfl, hb⟩; (first | (replace hk := kp_step hk hb (by first | omega | (simp; done) | (simp; omega)); clear hb) | (have hk := kp_of (B := w.heap.size + 2) (W := (w.alloc (.cells #[.int .i64 f, .int .i64 s, .int .i64 p, .int .i64 c] 24)).alloc (.cells #[.int .i64 i, .int .i64 q, .int .i64 a] 26)) hb (by first | omega | (simp; done) | (simp; omega)); clear hb))))
  go_region_held3 (fun w' => Below (w.heap.size + 2) ((w.alloc (.cells #[.int .i64 f, .int .i64 s, .int .i64 p, .int .i64 c] 24)).alloc (.cells #[.int .i64 i, .int .i64 q, .int .i64 a] 26)) w' ∧ ∀ k o, k < w.heap.size + 2 → w'.cell? ⟨k, o, none⟩ = World.cell? ((w.alloc (.cells #[.int .i64 f, .int .i64 s, .int .i64 p, .int .i64 c] 24)).alloc (.cells #[.int .i64 i, .int .i64 q, .int .i64 a] 26)) ⟨k, o, none⟩) (first | assumption | exact kp_start | (refine kp_step ?_ hb ?_; assumption; (first | omega | (simp; done) | (simp; omega))) | (refine kp_drew ?_; assumption) | (refine kp_drew (kp_of hb ?_); (first | omega | (simp; done) | (simp; omega)))) (first | (go_at_call 26; refine (FeeOf_i_yes _ _ _ _ _ _ h (by omega) (by omega)).mono ?_; rintro e w' ⟨rfl, hb⟩))
  go_wp2
  all_goals
    go_ret
    refine ⟨ret_int ?_, by (refine kp_end (by assumption) ?_ (by first | omega | (simp; done) | (simp; omega)); (repeat (first | exact Below.refl _ _ | assumption | refine Below.alloc ?_ (by first | omega | (simp; done) | (simp; omega)) _ | refine Below.drew ?_ | refine bdN ?_ _ | refine Below.setCell ?_ (by first | omega | (simp; done) | (simp; omega)) _)))⟩
    clear hb e1
    have e2 := IntWalk.i64_in (fee f s p c (m - i) - q) (by omega)
    simp only [e2] at *
    unfold due
    (try split) <;> omega
theorem StayDue_i_no (f s p c i q a m : Int) (w : World) (hn : ¬ (tv f s p c = true ∧ sv i q a = true ∧ a ≤ m ∧ m ≤ 9999)) :
    Calls Tryd.prog 16 #[.agg #[.int .i64 f, .int .i64 s, .int .i64 p, .int .i64 c], .agg #[.int .i64 i, .int .i64 q, .int .i64 a], .int .i64 m] w fun e w' => e = .returned (.int .i64 (-1)) ∧ Below w.heap.size w w' := by
  rcases (show tv f s p c = false ∨ (tv f s p c = true ∧ sv i q a = false) ∨ (tv f s p c = true ∧ sv i q a = true ∧ m < a) ∨ (tv f s p c = true ∧ sv i q a = true ∧ a ≤ m ∧ 9999 < m) from by revert hn; cases tv f s p c <;> cases sv i q a <;> simp <;> omega) with h | ⟨h, h'⟩ | ⟨h, h', h0⟩ | ⟨h, h', h0, h1⟩
  all_goals
    clear hn
    try have hr : inR m a 9999 = false := inR_no (by omega)
    go_enter Tryd.func16, Tryd.ntmps16
    go_wp2_with (first | (go_at_call 65; refine (TariffValid_i _ _ _ _ _).mono ?_; rintro e w' ⟨rfl, hb⟩; (first | (replace hk := kp_step hk hb (by first | omega | (simp; done) | (simp; omega)); clear hb) | (have hk := kp_of (B := w.heap.size + 2) (W := (w.alloc (.cells #[.int .i64 f, .int .i64 s, .int .i64 p, .int .i64 c] 24)).alloc (.cells #[.int .i64 i, .int .i64 q, .int .i64 a] 26)) hb (by first | omega | (simp; done) | (simp; omega)); clear hb))) | (go_at_call 22; refine (StayValid_i _ _ _ _).mono ?_; rintro e w' ⟨rfl, hb⟩; (first | (replace hk := kp_step hk hb (by first | omega | (simp; done) | (simp; omega)); clear hb) | (have hk := kp_of (B := w.heap.size + 2) (W := (w.alloc (.cells #[.int .i64 f, .int .i64 s, .int .i64 p, .int .i64 c] 24)).alloc (.cells #[.int .i64 i, .int .i64 q, .int .i64 a] 26)) hb (by first | omega | (simp; done) | (simp; omega)); clear hb))))
    go_ret
    exact ⟨rfl, by (refine kp_end (by assumption) ?_ (by first | omega | (simp; done) | (simp; omega)); (repeat (first | exact Below.refl _ _ | assumption | refine Below.alloc ?_ (by first | omega | (simp; done) | (simp; omega)) _ | refine Below.drew ?_ | refine bdN ?_ _ | refine Below.setCell ?_ (by first | omega | (simp; done) | (simp; omega)) _)))⟩
theorem StayDue_i (f s p c i q a m : Int) (w : World) :
    Calls Tryd.prog 16 #[.agg #[.int .i64 f, .int .i64 s, .int .i64 p, .int .i64 c], .agg #[.int .i64 i, .int .i64 q, .int .i64 a], .int .i64 m] w fun e w' => e = .returned (.int .i64 (dueV f s p c i q a m)) ∧ Below w.heap.size w w' := by
  by_cases hn : tv f s p c = true ∧ sv i q a = true ∧ a ≤ m ∧ m ≤ 9999
  · rw [dueV, if_pos hn]; exact StayDue_i_yes f s p c i q a m w hn.1 hn.2.1 hn.2.2.1 hn.2.2.2
  · rw [dueV, if_neg hn]; exact StayDue_i_no f s p c i q a m w hn
theorem StayDue_s_yes (f s p c i q a m : Int) (w : World) (h : tv f s p c = true) (h' : sv i q a = true) (h0 : a ≤ m) (h1 : m ≤ 9999) :
    Calls Tryd.prog 17 #[.agg #[.int .i64 f, .int .i64 s, .int .i64 p, .int .i64 c], .agg #[.int .i64 i, .int .i64 q, .int .i64 a], .int .i64 m] w fun e w' => e = .returned (.int .i64 (due f s p c i q m)) ∧ Below w.heap.size w w' := by
  obtain ⟨a1, a2, a3, a4, a5, a6⟩ := sv_bd h'
  have b1 := fee_bd (m := m - i) h (by omega) (by omega)
  have hr : inR m a 9999 = true := inR_yes ⟨h0, h1⟩
  have e1 : IntKind.i64.wrap (m - i) = m - i := IntWalk.i64_in _ (by omega)
  go_enter Tryd.func17, Tryd.ntmps17
  go_wp2_with (first | (go_at_call 66; refine (TariffValid_s _ _ _ _ _).mono ?_; rintro e w' ⟨rfl, hb⟩; (first | (replace hk := kp_step hk hb (by first | omega | (simp; done) | (simp; omega)); clear hb) | (have hk := kp_of (B := w.heap.size + 2) (W := (w.alloc (.cells #[.int .i64 f, .int .i64 s, .int .i64 p, .int .i64 c] 24)).alloc (.cells #[.int .i64 i, .int .i64 q, .int .i64 a] 26)) hb (by first | omega | (simp; done) | (simp; omega)); clear hb))) | (go_at_call 67; refine (StayValid_s _ _ _ _).mono ?_; rintro e w' ⟨rfl, hb⟩; (first | (replace hk := kp_step hk hb (by first | omega | (simp; done) | (simp; omega)); clear hb) | (have hk := kp_of (B := w.heap.size + 2) (W := (w.alloc (.cells #[.int .i64 f, .int .i64 s, .int .i64 p, .int .i64 c] 24)).alloc (.cells #[.int .i64 i, .int .i64 q, .int .i64 a] 26)) hb (by first | omega | (simp; done) | (simp; omega)); clear hb))) | (go_at_call 68; refine (l1In_any _ _ _ _).mono ?_; rintro e w' ⟨rfl, rfl⟩))
  go_region_held3 (fun w' => Below (w.heap.size + 2) ((w.alloc (.cells #[.int .i64 f, .int .i64 s, .int .i64 p, .int .i64 c] 24)).alloc (.cells #[.int .i64 i, .int .i64 q, .int .i64 a] 26)) w' ∧ ∀ k o, k < w.heap.size + 2 → w'.cell? ⟨k, o, none⟩ = World.cell? ((w.alloc (.cells #[.int .i64 f, .int .i64 s, .int .i64 p, .int .i64 c] 24)).alloc (.cells #[.int .i64 i, .int .i64 q, .int .i64 a] 26)) ⟨k, o, none⟩) (first | assumption | exact kp_start | (refine kp_step ?_ hb ?_; assumption; (first | omega | (simp; done) | (simp; omega))) | (refine kp_drew ?_; assumption) | (refine kp_drew (kp_of hb ?_); (first | omega | (simp; done) | (simp; omega)))) (first | (go_at_call 69; refine (FeeOf_s_yes _ _ _ _ _ _ h (by omega) (by omega)).mono ?_; rintro e w' ⟨rfl, hb⟩))
  go_wp2
  all_goals
    go_ret
    refine ⟨ret_int ?_, by (refine kp_end (by assumption) ?_ (by first | omega | (simp; done) | (simp; omega)); (repeat (first | exact Below.refl _ _ | assumption | refine Below.alloc ?_ (by first | omega | (simp; done) | (simp; omega)) _ | refine Below.drew ?_ | refine bdN ?_ _ | refine Below.setCell ?_ (by first | omega | (simp; done) | (simp; omega)) _)))⟩
    clear hb e1
    have e2 := IntWalk.i64_in (fee f s p c (m - i) - q) (by omega)
    simp only [e2] at *
    unfold due
    (try split) <;> omega
theorem StayDue_s_no (f s p c i q a m : Int) (w : World) (hn : ¬ (tv f s p c = true ∧ sv i q a = true ∧ a ≤ m ∧ m ≤ 9999)) :
    Calls Tryd.prog 17 #[.agg #[.int .i64 f, .int .i64 s, .int .i64 p, .int .i64 c], .agg #[.int .i64 i, .int .i64 q, .int .i64 a], .int .i64 m] w fun e w' => e = .returned (.int .i64 (-1)) ∧ Below w.heap.size w w' := by
  rcases (show tv f s p c = false ∨ (tv f s p c = true ∧ sv i q a = false) ∨ (tv f s p c = true ∧ sv i q a = true ∧ m < a) ∨ (tv f s p c = true ∧ sv i q a = true ∧ a ≤ m ∧ 9999 < m) from by revert hn; cases tv f s p c <;> cases sv i q a <;> simp <;> omega) with h | ⟨h, h'⟩ | ⟨h, h', h0⟩ | ⟨h, h', h0, h1⟩
  all_goals
    clear hn
    try have hr : inR m a 9999 = false := inR_no (by omega)
    go_enter Tryd.func17, Tryd.ntmps17
    go_wp2_with (first | (go_at_call 66; refine (TariffValid_s _ _ _ _ _).mono ?_; rintro e w' ⟨rfl, hb⟩; (first | (replace hk := kp_step hk hb (by first | omega | (simp; done) | (simp; omega)); clear hb) | (have hk := kp_of (B := w.heap.size + 2) (W := (w.alloc (.cells #[.int .i64 f, .int .i64 s, .int .i64 p, .int .i64 c] 24)).alloc (.cells #[.int .i64 i, .int .i64 q, .int .i64 a] 26)) hb (by first | omega | (simp; done) | (simp; omega)); clear hb))) | (go_at_call 67; refine (StayValid_s _ _ _ _).mono ?_; rintro e w' ⟨rfl, hb⟩; (first | (replace hk := kp_step hk hb (by first | omega | (simp; done) | (simp; omega)); clear hb) | (have hk := kp_of (B := w.heap.size + 2) (W := (w.alloc (.cells #[.int .i64 f, .int .i64 s, .int .i64 p, .int .i64 c] 24)).alloc (.cells #[.int .i64 i, .int .i64 q, .int .i64 a] 26)) hb (by first | omega | (simp; done) | (simp; omega)); clear hb))) | (go_at_call 68; refine (l1In_any _ _ _ _).mono ?_; rintro e w' ⟨rfl, rfl⟩))
    go_ret
    exact ⟨rfl, by (refine kp_end (by assumption) ?_ (by first | omega | (simp; done) | (simp; omega)); (repeat (first | exact Below.refl _ _ | assumption | refine Below.alloc ?_ (by first | omega | (simp; done) | (simp; omega)) _ | refine Below.drew ?_ | refine bdN ?_ _ | refine Below.setCell ?_ (by first | omega | (simp; done) | (simp; omega)) _)))⟩
theorem StayDue_s (f s p c i q a m : Int) (w : World) :
    Calls Tryd.prog 17 #[.agg #[.int .i64 f, .int .i64 s, .int .i64 p, .int .i64 c], .agg #[.int .i64 i, .int .i64 q, .int .i64 a], .int .i64 m] w fun e w' => e = .returned (.int .i64 (dueV f s p c i q a m)) ∧ Below w.heap.size w w' := by
  by_cases hn : tv f s p c = true ∧ sv i q a = true ∧ a ≤ m ∧ m ≤ 9999
  · rw [dueV, if_pos hn]; exact StayDue_s_yes f s p c i q a m w hn.1 hn.2.1 hn.2.2.1 hn.2.2.2
  · rw [dueV, if_neg hn]; exact StayDue_s_no f s p c i q a m w hn

theorem fsteps_mono (f s m : Int) (hs : 1 ≤ s) : fsteps f s m ≤ fsteps f s (m + 1) := by
  unfold fsteps
  split
  · split
    · omega
    · exact Int.ediv_nonneg (by omega) (by omega)
  · rw [if_neg (by omega)]
    exact Int.ediv_le_ediv (by omega) (by omega)
theorem fee_succ {f s p c m : Int} (h : tv f s p c = true) : fee f s p c m ≤ fee f s p c (m + 1) := by
  obtain ⟨a1, a2, a3, a4, a5, a6, a7, a8⟩ := tv_bd h
  unfold fee
  by_cases hq : m % 1440 = 1439
  · have e1 : (m + 1) / 1440 = m / 1440 + 1 := by omega
    have e2 : (m + 1) % 1440 = 0 := by omega
    have e3 : fsteps f s 0 = 0 := by rw [fsteps, if_pos a1]
    rw [e1, e2, e3, Int.add_mul]
    omega
  · have e1 : (m + 1) / 1440 = m / 1440 := by omega
    have e2 : (m + 1) % 1440 = m % 1440 + 1 := by omega
    rw [e1, e2]
    have := Int.mul_le_mul_of_nonneg_right (fsteps_mono f s (m % 1440) a3) a5
    omega
theorem fee_mono {f s p c : Int} (h : tv f s p c = true) (m : Int) (k : Nat) : fee f s p c m ≤ fee f s p c (m + k) := by
  induction k with
  | zero => simp
  | succ k ih =>
    have := ih
    have := fee_succ (m := m + k) h
    rw [show m + ((k + 1 : Nat) : Int) = m + k + 1 by omega]
    omega
theorem fee_le {f s p c m m' : Int} (h : tv f s p c = true) (h1 : m ≤ m') : fee f s p c m ≤ fee f s p c m' := by
  have := fee_mono h m (m' - m).toNat
  rwa [show m + ((m' - m).toNat : Int) = m' by omega] at this
theorem fee_zero {f s p c : Int} (h : tv f s p c = true) : fee f s p c 0 = 0 := by
  obtain ⟨a1, a2, a3, a4, a5, a6, a7, a8⟩ := tv_bd h
  have e3 : fsteps f s 0 = 0 := by rw [fsteps, if_pos a1]
  simp [fee, e3]; omega
/-- the greatest number up to n whose fee is at most x -/
def fdown (f s p c x : Int) : Nat → Nat
  | 0 => 0
  | n + 1 => if fee f s p c ((n + 1 : Nat) : Int) ≤ x then n + 1 else fdown f s p c x n
theorem fdown_eq {f s p c x : Int} (n m : Nat) (hm : m ≤ n) (h1 : fee f s p c m ≤ x) (h2 : ∀ y : Nat, m < y → y ≤ n → x < fee f s p c y) : fdown f s p c x n = m := by
  induction n with
  | zero => unfold fdown; omega
  | succ n ih =>
    unfold fdown
    by_cases e : m = n + 1
    · subst e; rw [if_pos h1]
    · have := h2 (n + 1) (by omega) (by omega)
      rw [if_neg (by omega)]
      exact ih (by omega) (fun y a b => h2 y a (by omega))
theorem fdown_le (f s p c x : Int) (n : Nat) : fdown f s p c x n ≤ n := by
  induction n with
  | zero => simp [fdown]
  | succ n ih => unfold fdown; split <;> omega
def flongV (f s p c x : Int) : Int := if tv f s p c = true ∧ 0 ≤ x then fdown f s p c x 9999 else -1

end Go.Proofs.YtnagghnmlcnbnaaDoor
