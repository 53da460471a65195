/- What the functions on tariffs, stays and single bookings compute, of the program and of the reference. No condition. -/
import Derived.Test.YtoiaggjjfahabaaBase
namespace Go.Proofs.Ytoiaggjjfahabaa
open Go.RowKit

def tv (f s p c : Int) : Bool := decide (0 ≤ f ∧ f ≤ 1439 ∧ 1 ≤ s ∧ s ≤ 1440 ∧ 0 ≤ p ∧ p ≤ 99 ∧ 0 ≤ c ∧ c ≤ 99)
def sv (i p a : Int) : Bool := decide (0 ≤ i ∧ i ≤ 9999 ∧ 0 ≤ p ∧ p ≤ 9999 ∧ i ≤ a ∧ a ≤ 9999)
def bv (d f t v : Int) : Bool := decide (1 ≤ d ∧ d ≤ 99 ∧ 0 ≤ f ∧ f ≤ 29 ∧ f < t ∧ t ≤ 30 ∧ 0 ≤ v ∧ v ≤ 99)
def ovl (b c b' c' : Int) : Bool := decide (b < c' ∧ b' < c)

def inR (n lo hi : Int) : Bool := decide (lo ≤ n ∧ n ≤ hi)
theorem inR_yes {n lo hi : Int} (h : lo ≤ n ∧ n ≤ hi) : inR n lo hi = true := by simpa [inR] using h
theorem inR_no {n lo hi : Int} (h : ¬ (lo ≤ n ∧ n ≤ hi)) : inR n lo hi = false := by rw [inR, decide_eq_false_iff_not]; exact h
theorem l1In_any (n lo hi : Int) (w : World) :
    Calls Try.prog 34 #[.int .i64 n, .int .i64 lo, .int .i64 hi] w fun e w' => e = .returned (.bool (inR n lo hi)) ∧ w = w' := by
  go_enter Try.func34, Try.ntmps34
  go_wp2
  all_goals
    go_ret
    exact ⟨ret_bool (by rw [Bool.eq_iff_iff]; simp [inR]; omega), rfl⟩
theorem toBook_any (a b c d : Int) (w : World) :
    Calls Try.prog 21 #[.agg #[.int .i64 a, .int .i64 b, .int .i64 c, .int .i64 d]] w fun e w' => e = .returned (.agg #[.int .i64 a, .int .i64 b, .int .i64 c, .int .i64 d]) ∧ Below w.heap.size w w' := by
  go_enter Try.func21, Try.ntmps21
  go_wp2
  refine bodyPost_ret (v := .agg #[.int .i64 a, .int .i64 b, .int .i64 c, .int .i64 d]) (by simp [results, Try.results21, go_sem]) rfl ⟨rfl, ?_⟩
  (repeat (first | exact Below.refl _ _ | assumption | refine Below.alloc ?_ (by first | omega | (simp; done) | (simp; omega)) _ | refine Below.drew ?_ | refine bdN ?_ _ | refine Below.setCell ?_ (by first | omega | (simp; done) | (simp; omega)) _))
theorem Overlap_s (a b c d a' b' c' d' : Int) (w : World) :
    Calls Try.prog 27 #[.agg #[.int .i64 a, .int .i64 b, .int .i64 c, .int .i64 d], .agg #[.int .i64 a', .int .i64 b', .int .i64 c', .int .i64 d']] w fun e w' => e = .returned (.bool (ovl b c b' c')) ∧ Below w.heap.size w w' := by
  go_enter Try.func27, Try.ntmps27
  go_wp2
  all_goals
    go_ret
    refine ⟨ret_bool (by rw [Bool.eq_iff_iff]; simp [ovl]; omega), ?_⟩
    (repeat (first | exact Below.refl _ _ | assumption | refine Below.alloc ?_ (by first | omega | (simp; done) | (simp; omega)) _ | refine Below.drew ?_ | refine bdN ?_ _ | refine Below.setCell ?_ (by first | omega | (simp; done) | (simp; omega)) _))
theorem Overlap_i (a b c d a' b' c' d' : Int) (w : World) :
    Calls Try.prog 31 #[.agg #[.int .i64 a, .int .i64 b, .int .i64 c, .int .i64 d], .agg #[.int .i64 a', .int .i64 b', .int .i64 c', .int .i64 d']] w fun e w' => e = .returned (.bool (ovl b c b' c')) ∧ Below w.heap.size w w' := by
  go_enter Try.func31, Try.ntmps31
  go_wp2
  all_goals
    go_ret
    refine ⟨ret_bool (by rw [Bool.eq_iff_iff]; simp [ovl]; omega), ?_⟩
    (repeat (first | exact Below.refl _ _ | assumption | refine Below.alloc ?_ (by first | omega | (simp; done) | (simp; omega)) _ | refine Below.drew ?_ | refine bdN ?_ _ | refine Below.setCell ?_ (by first | omega | (simp; done) | (simp; omega)) _))
theorem BookValid_i (d f t v : Int) (w : World) :
    Calls Try.prog 40 #[.agg #[.int .i64 d, .int .i64 f, .int .i64 t, .int .i64 v]] w fun e w' => e = .returned (.bool (bv d f t v)) ∧ Below w.heap.size w w' := by
  go_enter Try.func40, Try.ntmps40
  go_wp2
  all_goals
    go_ret
    refine ⟨ret_bool (by rw [Bool.eq_iff_iff]; simp [bv]; omega), ?_⟩
    (repeat (first | exact Below.refl _ _ | assumption | refine Below.alloc ?_ (by first | omega | (simp; done) | (simp; omega)) _ | refine Below.drew ?_ | refine bdN ?_ _ | refine Below.setCell ?_ (by first | omega | (simp; done) | (simp; omega)) _))
theorem BookValid_s (d f t v : Int) (w : World) :
    Calls Try.prog 36 #[.agg #[.int .i64 d, .int .i64 f, .int .i64 t, .int .i64 v]] w fun e w' => e = .returned (.bool (bv d f t v)) ∧ Below w.heap.size w w' := by
  go_enter Try.func36, Try.ntmps36
  go_wp2
  all_goals
    go_ret
    refine ⟨ret_bool (by rw [Bool.eq_iff_iff]; simp [bv]; omega), ?_⟩
    (repeat (first | exact Below.refl _ _ | assumption | refine Below.alloc ?_ (by first | omega | (simp; done) | (simp; omega)) _ | refine Below.drew ?_ | refine bdN ?_ _ | refine Below.setCell ?_ (by first | omega | (simp; done) | (simp; omega)) _))
end Go.Proofs.Ytoiaggjjfahabaa
