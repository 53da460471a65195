/- What StayDue and FeeLong compute, of the program and of the reference. No condition. -/
import Derived.Test.YtolnjpnaoeeanaaDoorFee
namespace Go.Proofs.YtolnjpnaoeeanaaDoor
open Go.RowKit

def due (f s p c i q m : Int) : Int := max (fee f s p c (m - i) - q) 0
def dueV (f s p c i q a m : Int) : Int := if tv f s p c = true ∧ sv i q a = true ∧ a ≤ m ∧ m ≤ 9999 then due f s p c i q m else -1
theorem sv_bd {i q a : Int} (h : sv i q a = true) : 0 ≤ i ∧ i ≤ 9999 ∧ 0 ≤ q ∧ q ≤ 9999 ∧ i ≤ a ∧ a ≤ 9999 := by simpa [sv] using h
theorem fsteps_mono (f s m : Int) (hs : 1 ≤ s) : fsteps f s m ≤ fsteps f s (m + 1) := by
  unfold fsteps
  split
  · split
    · omega
    · exact Int.ediv_nonneg (by omega) (by omega)
  · rw [if_neg (by omega)]
    exact Int.ediv_le_ediv (by omega) (by omega)
theorem fee_succ {f s p c m : Int} (h : tv f s p c = true) : fee f s p c m ≤ fee f s p c (m + 1) := by
  obtain ⟨a1, a2, a3, a4, a5, a6, a7, a8⟩ := tv_bd h
  unfold fee
  by_cases hq : m % 1440 = 1439
  · have e1 : (m + 1) / 1440 = m / 1440 + 1 := by omega
    have e2 : (m + 1) % 1440 = 0 := by omega
    have e3 : fsteps f s 0 = 0 := by rw [fsteps, if_pos a1]
    rw [e1, e2, e3, Int.add_mul]
    omega
  · have e1 : (m + 1) / 1440 = m / 1440 := by omega
    have e2 : (m + 1) % 1440 = m % 1440 + 1 := by omega
    rw [e1, e2]
    have := Int.mul_le_mul_of_nonneg_right (fsteps_mono f s (m % 1440) a3) a5
    omega
theorem fee_mono {f s p c : Int} (h : tv f s p c = true) (m : Int) (k : Nat) : fee f s p c m ≤ fee f s p c (m + k) := by
  induction k with
  | zero => simp
  | succ k ih =>
    have := ih
    have := fee_succ (m := m + k) h
    rw [show m + ((k + 1 : Nat) : Int) = m + k + 1 by omega]
    omega
theorem fee_le {f s p c m m' : Int} (h : tv f s p c = true) (h1 : m ≤ m') : fee f s p c m ≤ fee f s p c m' := by
  have := fee_mono h m (m' - m).toNat
  rwa [show m + ((m' - m).toNat : Int) = m' by omega] at this
theorem fee_zero {f s p c : Int} (h : tv f s p c = true) : fee f s p c 0 = 0 := by
  obtain ⟨a1, a2, a3, a4, a5, a6, a7, a8⟩ := tv_bd h
  have e3 : fsteps f s 0 = 0 := by rw [fsteps, if_pos a1]
  simp [fee, e3]; omega
/-- the greatest number up to n whose fee is at most x -/
def fdown (f s p c x : Int) : Nat → Nat
  | 0 => 0
  | n + 1 => if fee f s p c ((n + 1 : Nat) : Int) ≤ x then n + 1 else fdown f s p c x n
theorem fdown_eq {f s p c x : Int} (n m : Nat) (hm : m ≤ n) (h1 : fee f s p c m ≤ x) (h2 : ∀ y : Nat, m < y → y ≤ n → x < fee f s p c y) : fdown f s p c x n = m := by
  induction n with
  | zero => unfold fdown; omega
  | succ n ih =>
    unfold fdown
    by_cases e : m = n + 1
    · subst e; rw [if_pos h1]
    · have := h2 (n + 1) (by omega) (by omega)
      rw [if_neg (by omega)]
      exact ih (by omega) (fun y a b => h2 y a (by omega))
theorem fdown_le (f s p c x : Int) (n : Nat) : fdown f s p c x n ≤ n := by
  induction n with
  | zero => simp [fdown]
  | succ n ih => unfold fdown; split <;> omega
def flongV (f s p c x : Int) : Int := if tv f s p c = true ∧ 0 ≤ x then fdown f s p c x 9999 else -1

theorem FeeLong_i_no (f s p c x : Int) (w : World) (hn : ¬ (tv f s p c = true ∧ 0 ≤ x)) :
    Calls Tryd.prog 42 #[.agg #[.int .i64 f, .int .i64 s, .int .i64 p, .int .i64 c], .int .i64 x] w fun e w' => e = .returned (.int .i64 (-1)) ∧ Below w.heap.size w w' := by
  rcases (show tv f s p c = false ∨ (tv f s p c = true ∧ x < 0) from by revert hn; cases tv f s p c <;> simp) with h | ⟨h, h0⟩
  all_goals
    clear hn
    go_enter Tryd.func42, Tryd.ntmps42
    go_wp2_with (go_at_call 20; refine (TariffValid_i _ _ _ _ _).mono ?_; rintro e w' ⟨rfl, hb⟩; (first | (replace hk := kp_step hk hb (by first | omega | (simp; done) | (simp; omega)); clear hb) | (have hk := kp_of (B := w.heap.size + 1) (W := w.alloc (.cells #[.int .i64 f, .int .i64 s, .int .i64 p, .int .i64 c] 30)) hb (by first | omega | (simp; done) | (simp; omega)); clear hb)))
    go_ret
    exact ⟨rfl, by (refine kp_end (by assumption) ?_ (by first | omega | (simp; done) | (simp; omega)); (repeat (first | exact Below.refl _ _ | assumption | refine Below.alloc ?_ (by first | omega | (simp; done) | (simp; omega)) _ | refine Below.drew ?_ | refine bdN ?_ _ | refine Below.setCell ?_ (by first | omega | (simp; done) | (simp; omega)) _)))⟩
theorem FeeLong_s_no (f s p c x : Int) (w : World) (hn : ¬ (tv f s p c = true ∧ 0 ≤ x)) :
    Calls Tryd.prog 43 #[.agg #[.int .i64 f, .int .i64 s, .int .i64 p, .int .i64 c], .int .i64 x] w fun e w' => e = .returned (.int .i64 (-1)) ∧ Below w.heap.size w w' := by
  rcases (show tv f s p c = false ∨ (tv f s p c = true ∧ x < 0) from by revert hn; cases tv f s p c <;> simp) with h | ⟨h, h0⟩
  all_goals
    clear hn
    go_enter Tryd.func43, Tryd.ntmps43
    go_wp2_with (go_at_call 21; refine (TariffValid_s _ _ _ _ _).mono ?_; rintro e w' ⟨rfl, hb⟩; (first | (replace hk := kp_step hk hb (by first | omega | (simp; done) | (simp; omega)); clear hb) | (have hk := kp_of (B := w.heap.size + 1) (W := w.alloc (.cells #[.int .i64 f, .int .i64 s, .int .i64 p, .int .i64 c] 30)) hb (by first | omega | (simp; done) | (simp; omega)); clear hb)))
    go_ret
    exact ⟨rfl, by (refine kp_end (by assumption) ?_ (by first | omega | (simp; done) | (simp; omega)); (repeat (first | exact Below.refl _ _ | assumption | refine Below.alloc ?_ (by first | omega | (simp; done) | (simp; omega)) _ | refine Below.drew ?_ | refine bdN ?_ _ | refine Below.setCell ?_ (by first | omega | (simp; done) | (simp; omega)) _)))⟩
theorem FeeLong_i_yes (f s p c x : Int) (w : World) (h : tv f s p c = true) (h0 : 0 ≤ x) :
    Calls Tryd.prog 42 #[.agg #[.int .i64 f, .int .i64 s, .int .i64 p, .int .i64 c], .int .i64 x] w fun e w' => e = .returned (.int .i64 (fdown f s p c x 9999)) ∧ Below w.heap.size w w' := by
  go_enter Tryd.func42, Tryd.ntmps42
  go_wp2_with (go_at_call 20; refine (TariffValid_i _ _ _ _ _).mono ?_; rintro e w' ⟨rfl, hb⟩; (first | (replace hk := kp_step hk hb (by first | omega | (simp; done) | (simp; omega)); clear hb) | (have hk := kp_of (B := w.heap.size + 1) (W := w.alloc (.cells #[.int .i64 f, .int .i64 s, .int .i64 p, .int .i64 c] 30)) hb (by first | omega | (simp; done) | (simp; omega)); clear hb)))
  have H0 := Lib.hid hk
  clear hk
  go_loopw [5] (fun v wr => ∃ m : Nat, m ≤ 9999 ∧ v = .int .i64 m ∧ (∀ y : Nat, m < y → y ≤ 9999 → x < fee f s p c y) ∧ (Below (w.heap.size + 1) (w.alloc (.cells #[.int .i64 f, .int .i64 s, .int .i64 p, .int .i64 c] 30)) wr ∧ ∀ k o, k < w.heap.size + 1 → wr.cell? ⟨k, o, none⟩ = (w.alloc (.cells #[.int .i64 f, .int .i64 s, .int .i64 p, .int .i64 c] 30)).cell? ⟨k, o, none⟩)) (fun v _ => (intOf v).toNat)
  case atStart => exact ⟨9999, by omega, rfl, fun y a b => by omega, H0.out⟩
  case round =>
    obtain ⟨m, hm, rfl, hy, hk⟩ := hrel
    have Hy := Lib.hid hy
    clear hy
    by_cases hx : x < fee f s p c m
    · have hm0 : 0 < m := by
        rcases Nat.eq_zero_or_pos m with e | e
        · subst e; have := fee_zero h; simp at hx; omega
        · exact e
      go_wp2_with (go_at_call 36; refine (FeeOf_i_yes _ _ _ _ _ _ h (by omega) (by omega)).mono ?_; rintro e w' ⟨rfl, hb⟩; (first | (replace hk := kp_step hk hb (by first | omega | (simp; done) | (simp; omega)); clear hb) | (have hk := kp_of (B := w.heap.size + 1) (W := w) hb (by first | omega | (simp; done) | (simp; omega)); clear hb)))
      go_roundw
      case rel => exact ⟨m - 1, by omega, by go_num, (fun y a b => by rcases Nat.lt_or_ge m y with g | g; exact Hy.out y g b; obtain rfl : y = m := (by omega); exact hx), hk⟩
      case measure => simp [intOf]; omega
    · go_wp2_with (go_at_call 36; refine (FeeOf_i_yes _ _ _ _ _ _ h (by omega) (by omega)).mono ?_; rintro e w' ⟨rfl, hb⟩; (first | (replace hk := kp_step hk hb (by first | omega | (simp; done) | (simp; omega)); clear hb) | (have hk := kp_of (B := w.heap.size + 1) (W := w) hb (by first | omega | (simp; done) | (simp; omega)); clear hb)))
      go_ret
      exact ⟨ret_int (by rw [fdown_eq 9999 m hm (by omega) Hy.out]), by (refine kp_end (by assumption) ?_ (by first | omega | (simp; done) | (simp; omega)); (repeat (first | exact Below.refl _ _ | assumption | refine Below.alloc ?_ (by first | omega | (simp; done) | (simp; omega)) _ | refine Below.drew ?_ | refine bdN ?_ _ | refine Below.setCell ?_ (by first | omega | (simp; done) | (simp; omega)) _)))⟩
theorem FeeLong_s_yes (f s p c x : Int) (w : World) (h : tv f s p c = true) (h0 : 0 ≤ x) :
    Calls Tryd.prog 43 #[.agg #[.int .i64 f, .int .i64 s, .int .i64 p, .int .i64 c], .int .i64 x] w fun e w' => e = .returned (.int .i64 (fdown f s p c x 9999)) ∧ Below w.heap.size w w' := by
  go_enter Tryd.func43, Tryd.ntmps43
  go_wp2_with (go_at_call 21; refine (TariffValid_s _ _ _ _ _).mono ?_; rintro e w' ⟨rfl, hb⟩; (first | (replace hk := kp_step hk hb (by first | omega | (simp; done) | (simp; omega)); clear hb) | (have hk := kp_of (B := w.heap.size + 1) (W := w.alloc (.cells #[.int .i64 f, .int .i64 s, .int .i64 p, .int .i64 c] 30)) hb (by first | omega | (simp; done) | (simp; omega)); clear hb)))
  have H0 := Lib.hid hk
  clear hk
  go_loopw [5, 6] (fun v u wr => ∃ lo hi : Nat, lo ≤ hi ∧ hi ≤ 9999 ∧ v = .int .i64 lo ∧ u = .int .i64 hi ∧ fee f s p c lo ≤ x ∧ (∀ y : Nat, hi < y → y ≤ 9999 → x < fee f s p c y) ∧ (Below (w.heap.size + 1) (w.alloc (.cells #[.int .i64 f, .int .i64 s, .int .i64 p, .int .i64 c] 30)) wr ∧ ∀ k o, k < w.heap.size + 1 → wr.cell? ⟨k, o, none⟩ = (w.alloc (.cells #[.int .i64 f, .int .i64 s, .int .i64 p, .int .i64 c] 30)).cell? ⟨k, o, none⟩)) (fun v u _ => (intOf u).toNat - (intOf v).toNat)
  case atStart => exact ⟨0, 9999, by omega, by omega, rfl, rfl, by have := fee_zero h; simp; omega, (fun y a b => by omega), H0.out⟩
  case round =>
    obtain ⟨lo, hi, hl, hh, rfl, rfl, hf, hy, hk⟩ := hrel
    have Hy := Lib.hid hy
    clear hy
    have Hf := Lib.hid hf
    clear hf
    by_cases hlt : lo < hi
    · obtain ⟨md, hmd⟩ : ∃ md : Nat, md = (lo + hi + 1) / 2 := ⟨_, rfl⟩
      have Hmd := Lib.hid hmd
      have hd1 : lo < md := by omega
      have hd2 : md ≤ hi := by omega
      have em : ((lo : Int) + hi + 1) / 2 = md := by omega
      clear hmd
      by_cases hx : fee f s p c md ≤ x
      · go_wp2_with (go_at_call 37; refine (FeeOf_s_yes _ _ _ _ _ _ h (by omega) (by omega)).mono ?_; rintro e w' ⟨rfl, hb⟩; (first | (replace hk := kp_step hk hb (by first | omega | (simp; done) | (simp; omega)); clear hb) | (have hk := kp_of (B := w.heap.size + 1) (W := w) hb (by first | omega | (simp; done) | (simp; omega)); clear hb)))
        go_roundw
        case rel => exact ⟨md, hi, by omega, by omega, rfl, rfl, hx, Hy.out, hk⟩
        case measure => simp [intOf]; omega
      · go_wp2_with (go_at_call 37; refine (FeeOf_s_yes _ _ _ _ _ _ h (by omega) (by omega)).mono ?_; rintro e w' ⟨rfl, hb⟩; (first | (replace hk := kp_step hk hb (by first | omega | (simp; done) | (simp; omega)); clear hb) | (have hk := kp_of (B := w.heap.size + 1) (W := w) hb (by first | omega | (simp; done) | (simp; omega)); clear hb)))
        go_roundw
        case rel => exact ⟨lo, md - 1, by omega, by omega, rfl, by go_num, Hf.out, (fun y a b => by have := fee_le (m := md) (m' := y) h (by omega); omega), hk⟩
        case measure => simp [intOf]; omega
    · go_wp2
      go_ret
      refine ⟨ret_int ?_, by (refine kp_end (by assumption) ?_ (by first | omega | (simp; done) | (simp; omega)); (repeat (first | exact Below.refl _ _ | assumption | refine Below.alloc ?_ (by first | omega | (simp; done) | (simp; omega)) _ | refine Below.drew ?_ | refine bdN ?_ _ | refine Below.setCell ?_ (by first | omega | (simp; done) | (simp; omega)) _)))⟩
      rw [fdown_eq 9999 lo (by omega) Hf.out (fun y a b => Hy.out y (by omega) b)]
theorem FeeLong_i (f s p c x : Int) (w : World) :
    Calls Tryd.prog 42 #[.agg #[.int .i64 f, .int .i64 s, .int .i64 p, .int .i64 c], .int .i64 x] w fun e w' => e = .returned (.int .i64 (flongV f s p c x)) ∧ Below w.heap.size w w' := by
  by_cases hn : tv f s p c = true ∧ 0 ≤ x
  · rw [flongV, if_pos hn]; exact FeeLong_i_yes f s p c x w hn.1 hn.2
  · rw [flongV, if_neg hn]; exact FeeLong_i_no f s p c x w hn
theorem FeeLong_s (f s p c x : Int) (w : World) :
    Calls Tryd.prog 43 #[.agg #[.int .i64 f, .int .i64 s, .int .i64 p, .int .i64 c], .int .i64 x] w fun e w' => e = .returned (.int .i64 (flongV f s p c x)) ∧ Below w.heap.size w w' := by
  by_cases hn : tv f s p c = true ∧ 0 ≤ x
  · rw [flongV, if_pos hn]; exact FeeLong_s_yes f s p c x w hn.1 hn.2
  · rw [flongV, if_neg hn]; exact FeeLong_s_no f s p c x w hn
end Go.Proofs.YtolnjpnaoeeanaaDoor
