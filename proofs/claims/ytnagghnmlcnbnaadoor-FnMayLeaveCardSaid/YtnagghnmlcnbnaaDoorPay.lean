/- What PayStay computes, of the program and of the reference. No condition. -/
import Derived.Test.YtnagghnmlcnbnaaDoorLeave
namespace Go.Proofs.YtnagghnmlcnbnaaDoor
open Go.RowKit

structure Paid where
  i : Int
  q : Int
  a : Int
  back : Int
  ok : Bool
def payV (f s p c i q a m x : Int) : Paid :=
  if dueV f s p c i q a m < 0 ∨ x < 1 ∨ 300 < x then ⟨0, 0, 0, x, false⟩
  else if dueV f s p c i q a m = 0 then ⟨i, q, a, x, false⟩
  else ⟨i, q + min x (dueV f s p c i q a m), m, x - min x (dueV f s p c i q a m), true⟩
def PayEnd (w : World) (r : Paid) (e : Ending) (w' : World) : Prop := e = .returned (.tuple #[.agg #[.int .i64 r.i, .int .i64 r.q, .int .i64 r.a], .int .i64 r.back, .bool r.ok]) ∧ Below w.heap.size w w'
theorem PayStay_s (f s p c i q a m x : Int) (w : World) :
    Calls Tryd.prog 21 #[.agg #[.int .i64 f, .int .i64 s, .int .i64 p, .int .i64 c], .agg #[.int .i64 i, .int .i64 q, .int .i64 a], .int .i64 m, .int .i64 x] w (PayEnd w (payV f s p c i q a m x)) := by
  have bd := dueV_bd f s p c i q a m
  by_cases h0 : dueV f s p c i q a m < 0
  · have y : Hid (payV f s p c i q a m x = ⟨0, 0, 0, x, false⟩) := by show _ = _; unfold payV; rw [if_pos (.inl h0)]
    go_enter Tryd.func21, Tryd.ntmps21
    go_wp2_with (first | (go_at_call 17; refine (StayDue_s _ _ _ _ _ _ _ _ _).mono ?_; rintro e w' ⟨rfl, hb⟩; have hf := (bcell hb).2; (first | (replace hk := kp_step hk hb (by first | omega | (simp; done) | (simp; omega)); clear hb) | (have hk := kp_of (B := w.heap.size + 3) (W := ((w.alloc (.cells #[.int .i64 f, .int .i64 s, .int .i64 p, .int .i64 c] 24)).alloc (.cells #[.int .i64 i, .int .i64 q, .int .i64 a] 26)).alloc (.cells #[.int .i64 0, .int .i64 0, .int .i64 0] 26)) hb (by first | omega | (simp; done) | (simp; omega)); clear hb))) | (go_at_call 68; refine (l1In_any _ _ _ _).mono ?_; rintro e w' ⟨rfl, rfl⟩))
    all_goals (refine bodyPost_ret (v := .tuple #[.agg #[.int .i64 (0), .int .i64 (0), .int .i64 (0)], .int .i64 (x), .bool false]) (by first | (simp [results, Tryd.results21, go_sem, hk.2]; done) | (simp [results, Tryd.results21, go_sem, hk.2]; omega)) rfl ⟨by rw [y.out], by (repeat (first | refine Below.alloc ?_ (by first | omega | (simp; done) | (simp; omega)) _ | refine Below.drew ?_ | refine bdN ?_ _ | refine Below.setCell ?_ (by first | omega | (simp; done) | (simp; omega)) _)); (refine kp_end (by assumption) ?_ (by first | omega | (simp; done) | (simp; omega)); (repeat (first | exact Below.refl _ _ | assumption | refine Below.alloc ?_ (by first | omega | (simp; done) | (simp; omega)) _ | refine Below.drew ?_ | refine bdN ?_ _ | refine Below.setCell ?_ (by first | omega | (simp; done) | (simp; omega)) _)))⟩)
  · by_cases hx : 1 ≤ x ∧ x ≤ 300
    · have hr : inR x 1 300 = true := inR_yes hx
      obtain ⟨v1, v2, v3, v4⟩ := dueV_nn (by omega : 0 ≤ dueV f s p c i q a m)
      obtain ⟨a1, a2, a3, a4, a5, a6⟩ := sv_bd v2
      clear v1 v2
      by_cases h1 : dueV f s p c i q a m = 0
      · have x1 : (dueV f s p c i q a m == 0) = true := by simpa using h1
        have y : Hid (payV f s p c i q a m x = ⟨i, q, a, x, false⟩) := by show _ = _; unfold payV; rw [if_neg (by omega), if_pos h1]
        clear h1
        go_enter Tryd.func21, Tryd.ntmps21
        go_wp2_with (first | (go_at_call 17; refine (StayDue_s _ _ _ _ _ _ _ _ _).mono ?_; rintro e w' ⟨rfl, hb⟩; have hf := (bcell hb).2; (first | (replace hk := kp_step hk hb (by first | omega | (simp; done) | (simp; omega)); clear hb) | (have hk := kp_of (B := w.heap.size + 3) (W := ((w.alloc (.cells #[.int .i64 f, .int .i64 s, .int .i64 p, .int .i64 c] 24)).alloc (.cells #[.int .i64 i, .int .i64 q, .int .i64 a] 26)).alloc (.cells #[.int .i64 0, .int .i64 0, .int .i64 0] 26)) hb (by first | omega | (simp; done) | (simp; omega)); clear hb))) | (go_at_call 68; refine (l1In_any _ _ _ _).mono ?_; rintro e w' ⟨rfl, rfl⟩))
        all_goals (refine bodyPost_ret (v := .tuple #[.agg #[.int .i64 (i), .int .i64 (q), .int .i64 (a)], .int .i64 (x), .bool false]) (by first | (simp [results, Tryd.results21, go_sem, hk.2]; done) | (simp [results, Tryd.results21, go_sem, hk.2]; omega)) rfl ⟨by rw [y.out], by (repeat (first | refine Below.alloc ?_ (by first | omega | (simp; done) | (simp; omega)) _ | refine Below.drew ?_ | refine bdN ?_ _ | refine Below.setCell ?_ (by first | omega | (simp; done) | (simp; omega)) _)); (refine kp_end (by assumption) ?_ (by first | omega | (simp; done) | (simp; omega)); (repeat (first | exact Below.refl _ _ | assumption | refine Below.alloc ?_ (by first | omega | (simp; done) | (simp; omega)) _ | refine Below.drew ?_ | refine bdN ?_ _ | refine Below.setCell ?_ (by first | omega | (simp; done) | (simp; omega)) _)))⟩)
      · have x1 : (dueV f s p c i q a m == 0) = false := by simpa using h1
        by_cases h2 : x ≤ dueV f s p c i q a m
        · have y : Hid (payV f s p c i q a m x = ⟨i, q + x, m, 0, true⟩) := by show _ = _; unfold payV; rw [if_neg (by omega), if_neg h1]; congr 1 <;> omega
          clear h1
          go_enter Tryd.func21, Tryd.ntmps21
          go_wp2_with (first | (go_at_call 17; refine (StayDue_s _ _ _ _ _ _ _ _ _).mono ?_; rintro e w' ⟨rfl, hb⟩; have hf := (bcell hb).2; (first | (replace hk := kp_step hk hb (by first | omega | (simp; done) | (simp; omega)); clear hb) | (have hk := kp_of (B := w.heap.size + 3) (W := ((w.alloc (.cells #[.int .i64 f, .int .i64 s, .int .i64 p, .int .i64 c] 24)).alloc (.cells #[.int .i64 i, .int .i64 q, .int .i64 a] 26)).alloc (.cells #[.int .i64 0, .int .i64 0, .int .i64 0] 26)) hb (by first | omega | (simp; done) | (simp; omega)); clear hb))) | (go_at_call 68; refine (l1In_any _ _ _ _).mono ?_; rintro e w' ⟨rfl, rfl⟩))
          all_goals (refine bodyPost_ret (v := .tuple #[.agg #[.int .i64 (i), .int .i64 (q + x), .int .i64 (m)], .int .i64 (0), .bool true]) (by first | (simp [results, Tryd.results21, go_sem, hk.2]; done) | (simp [results, Tryd.results21, go_sem, hk.2]; omega)) rfl ⟨by rw [y.out], by (repeat (first | refine Below.alloc ?_ (by first | omega | (simp; done) | (simp; omega)) _ | refine Below.drew ?_ | refine bdN ?_ _ | refine Below.setCell ?_ (by first | omega | (simp; done) | (simp; omega)) _)); (refine kp_end (by assumption) ?_ (by first | omega | (simp; done) | (simp; omega)); (repeat (first | exact Below.refl _ _ | assumption | refine Below.alloc ?_ (by first | omega | (simp; done) | (simp; omega)) _ | refine Below.drew ?_ | refine bdN ?_ _ | refine Below.setCell ?_ (by first | omega | (simp; done) | (simp; omega)) _)))⟩)
        · have y : Hid (payV f s p c i q a m x = ⟨i, q + dueV f s p c i q a m, m, x - dueV f s p c i q a m, true⟩) := by show _ = _; unfold payV; rw [if_neg (by omega), if_neg h1]; congr 1 <;> omega
          clear h1
          go_enter Tryd.func21, Tryd.ntmps21
          go_wp2_with (first | (go_at_call 17; refine (StayDue_s _ _ _ _ _ _ _ _ _).mono ?_; rintro e w' ⟨rfl, hb⟩; have hf := (bcell hb).2; (first | (replace hk := kp_step hk hb (by first | omega | (simp; done) | (simp; omega)); clear hb) | (have hk := kp_of (B := w.heap.size + 3) (W := ((w.alloc (.cells #[.int .i64 f, .int .i64 s, .int .i64 p, .int .i64 c] 24)).alloc (.cells #[.int .i64 i, .int .i64 q, .int .i64 a] 26)).alloc (.cells #[.int .i64 0, .int .i64 0, .int .i64 0] 26)) hb (by first | omega | (simp; done) | (simp; omega)); clear hb))) | (go_at_call 68; refine (l1In_any _ _ _ _).mono ?_; rintro e w' ⟨rfl, rfl⟩))
          all_goals (refine bodyPost_ret (v := .tuple #[.agg #[.int .i64 (i), .int .i64 (q + dueV f s p c i q a m), .int .i64 (m)], .int .i64 (x - dueV f s p c i q a m), .bool true]) (by first | (simp [results, Tryd.results21, go_sem, hk.2]; done) | (simp [results, Tryd.results21, go_sem, hk.2]; omega)) rfl ⟨by rw [y.out], by (repeat (first | refine Below.alloc ?_ (by first | omega | (simp; done) | (simp; omega)) _ | refine Below.drew ?_ | refine bdN ?_ _ | refine Below.setCell ?_ (by first | omega | (simp; done) | (simp; omega)) _)); (refine kp_end (by assumption) ?_ (by first | omega | (simp; done) | (simp; omega)); (repeat (first | exact Below.refl _ _ | assumption | refine Below.alloc ?_ (by first | omega | (simp; done) | (simp; omega)) _ | refine Below.drew ?_ | refine bdN ?_ _ | refine Below.setCell ?_ (by first | omega | (simp; done) | (simp; omega)) _)))⟩)
    · have hr : inR x 1 300 = false := inR_no hx
      have y : Hid (payV f s p c i q a m x = ⟨0, 0, 0, x, false⟩) := by show _ = _; unfold payV; rw [if_pos (.inr (by omega))]
      rcases (show x < 1 ∨ 300 < x from by omega) with g | g
      all_goals
        clear hx
        go_enter Tryd.func21, Tryd.ntmps21
        go_wp2_with (first | (go_at_call 17; refine (StayDue_s _ _ _ _ _ _ _ _ _).mono ?_; rintro e w' ⟨rfl, hb⟩; have hf := (bcell hb).2; (first | (replace hk := kp_step hk hb (by first | omega | (simp; done) | (simp; omega)); clear hb) | (have hk := kp_of (B := w.heap.size + 3) (W := ((w.alloc (.cells #[.int .i64 f, .int .i64 s, .int .i64 p, .int .i64 c] 24)).alloc (.cells #[.int .i64 i, .int .i64 q, .int .i64 a] 26)).alloc (.cells #[.int .i64 0, .int .i64 0, .int .i64 0] 26)) hb (by first | omega | (simp; done) | (simp; omega)); clear hb))) | (go_at_call 68; refine (l1In_any _ _ _ _).mono ?_; rintro e w' ⟨rfl, rfl⟩))
        all_goals (refine bodyPost_ret (v := .tuple #[.agg #[.int .i64 (0), .int .i64 (0), .int .i64 (0)], .int .i64 (x), .bool false]) (by first | (simp [results, Tryd.results21, go_sem, hk.2]; done) | (simp [results, Tryd.results21, go_sem, hk.2]; omega)) rfl ⟨by rw [y.out], by (repeat (first | refine Below.alloc ?_ (by first | omega | (simp; done) | (simp; omega)) _ | refine Below.drew ?_ | refine bdN ?_ _ | refine Below.setCell ?_ (by first | omega | (simp; done) | (simp; omega)) _)); (refine kp_end (by assumption) ?_ (by first | omega | (simp; done) | (simp; omega)); (repeat (first | exact Below.refl _ _ | assumption | refine Below.alloc ?_ (by first | omega | (simp; done) | (simp; omega)) _ | refine Below.drew ?_ | refine bdN ?_ _ | refine Below.setCell ?_ (by first | omega | (simp; done) | (simp; omega)) _)))⟩)
theorem PayStay_i (f s p c i q a m x : Int) (w : World) :
    Calls Tryd.prog 20 #[.agg #[.int .i64 f, .int .i64 s, .int .i64 p, .int .i64 c], .agg #[.int .i64 i, .int .i64 q, .int .i64 a], .int .i64 m, .int .i64 x] w (PayEnd w (payV f s p c i q a m x)) := by
  have bd := dueV_bd f s p c i q a m
  by_cases h0 : dueV f s p c i q a m < 0
  · have y : Hid (payV f s p c i q a m x = ⟨0, 0, 0, x, false⟩) := by show _ = _; unfold payV; rw [if_pos (.inl h0)]
    go_enter Tryd.func20, Tryd.ntmps20
    go_wp2_with (first | (go_at_call 16; refine (StayDue_i _ _ _ _ _ _ _ _ _).mono ?_; rintro e w' ⟨rfl, hb⟩; have hf := (bcell hb).2; (first | (replace hk := kp_step hk hb (by first | omega | (simp; done) | (simp; omega)); clear hb) | (have hk := kp_of (B := w.heap.size + 3) (W := ((w.alloc (.cells #[.int .i64 f, .int .i64 s, .int .i64 p, .int .i64 c] 24)).alloc (.cells #[.int .i64 i, .int .i64 q, .int .i64 a] 26)).alloc (.cells #[.int .i64 0, .int .i64 0, .int .i64 0] 26)) hb (by first | omega | (simp; done) | (simp; omega)); clear hb))))
    all_goals (refine bodyPost_ret (v := .tuple #[.agg #[.int .i64 (0), .int .i64 (0), .int .i64 (0)], .int .i64 (x), .bool false]) (by first | (simp [results, Tryd.results20, go_sem, hk.2]; done) | (simp [results, Tryd.results20, go_sem, hk.2]; omega)) rfl ⟨by rw [y.out], by (repeat (first | refine Below.alloc ?_ (by first | omega | (simp; done) | (simp; omega)) _ | refine Below.drew ?_ | refine bdN ?_ _ | refine Below.setCell ?_ (by first | omega | (simp; done) | (simp; omega)) _)); (refine kp_end (by assumption) ?_ (by first | omega | (simp; done) | (simp; omega)); (repeat (first | exact Below.refl _ _ | assumption | refine Below.alloc ?_ (by first | omega | (simp; done) | (simp; omega)) _ | refine Below.drew ?_ | refine bdN ?_ _ | refine Below.setCell ?_ (by first | omega | (simp; done) | (simp; omega)) _)))⟩)
  · by_cases hx : 1 ≤ x ∧ x ≤ 300
    · have hr : inR x 1 300 = true := inR_yes hx
      obtain ⟨v1, v2, v3, v4⟩ := dueV_nn (by omega : 0 ≤ dueV f s p c i q a m)
      obtain ⟨a1, a2, a3, a4, a5, a6⟩ := sv_bd v2
      clear v1 v2
      by_cases h1 : dueV f s p c i q a m = 0
      · have x1 : (dueV f s p c i q a m == 0) = true := by simpa using h1
        have y : Hid (payV f s p c i q a m x = ⟨i, q, a, x, false⟩) := by show _ = _; unfold payV; rw [if_neg (by omega), if_pos h1]
        clear h1
        go_enter Tryd.func20, Tryd.ntmps20
        go_wp2_with (first | (go_at_call 16; refine (StayDue_i _ _ _ _ _ _ _ _ _).mono ?_; rintro e w' ⟨rfl, hb⟩; have hf := (bcell hb).2; (first | (replace hk := kp_step hk hb (by first | omega | (simp; done) | (simp; omega)); clear hb) | (have hk := kp_of (B := w.heap.size + 3) (W := ((w.alloc (.cells #[.int .i64 f, .int .i64 s, .int .i64 p, .int .i64 c] 24)).alloc (.cells #[.int .i64 i, .int .i64 q, .int .i64 a] 26)).alloc (.cells #[.int .i64 0, .int .i64 0, .int .i64 0] 26)) hb (by first | omega | (simp; done) | (simp; omega)); clear hb))))
        all_goals (refine bodyPost_ret (v := .tuple #[.agg #[.int .i64 (i), .int .i64 (q), .int .i64 (a)], .int .i64 (x), .bool false]) (by first | (simp [results, Tryd.results20, go_sem, hk.2]; done) | (simp [results, Tryd.results20, go_sem, hk.2]; omega)) rfl ⟨by rw [y.out], by (repeat (first | refine Below.alloc ?_ (by first | omega | (simp; done) | (simp; omega)) _ | refine Below.drew ?_ | refine bdN ?_ _ | refine Below.setCell ?_ (by first | omega | (simp; done) | (simp; omega)) _)); (refine kp_end (by assumption) ?_ (by first | omega | (simp; done) | (simp; omega)); (repeat (first | exact Below.refl _ _ | assumption | refine Below.alloc ?_ (by first | omega | (simp; done) | (simp; omega)) _ | refine Below.drew ?_ | refine bdN ?_ _ | refine Below.setCell ?_ (by first | omega | (simp; done) | (simp; omega)) _)))⟩)
      · have x1 : (dueV f s p c i q a m == 0) = false := by simpa using h1
        by_cases h2 : x ≤ dueV f s p c i q a m
        · have y : Hid (payV f s p c i q a m x = ⟨i, q + x, m, 0, true⟩) := by show _ = _; unfold payV; rw [if_neg (by omega), if_neg h1]; congr 1 <;> omega
          clear h1
          go_enter Tryd.func20, Tryd.ntmps20
          go_wp2_with (first | (go_at_call 16; refine (StayDue_i _ _ _ _ _ _ _ _ _).mono ?_; rintro e w' ⟨rfl, hb⟩; have hf := (bcell hb).2; (first | (replace hk := kp_step hk hb (by first | omega | (simp; done) | (simp; omega)); clear hb) | (have hk := kp_of (B := w.heap.size + 3) (W := ((w.alloc (.cells #[.int .i64 f, .int .i64 s, .int .i64 p, .int .i64 c] 24)).alloc (.cells #[.int .i64 i, .int .i64 q, .int .i64 a] 26)).alloc (.cells #[.int .i64 0, .int .i64 0, .int .i64 0] 26)) hb (by first | omega | (simp; done) | (simp; omega)); clear hb))))
          all_goals (refine bodyPost_ret (v := .tuple #[.agg #[.int .i64 (i), .int .i64 (q + x), .int .i64 (m)], .int .i64 (0), .bool true]) (by first | (simp [results, Tryd.results20, go_sem, hk.2]; done) | (simp [results, Tryd.results20, go_sem, hk.2]; omega)) rfl ⟨by rw [y.out], by (repeat (first | refine Below.alloc ?_ (by first | omega | (simp; done) | (simp; omega)) _ | refine Below.drew ?_ | refine bdN ?_ _ | refine Below.setCell ?_ (by first | omega | (simp; done) | (simp; omega)) _)); (refine kp_end (by assumption) ?_ (by first | omega | (simp; done) | (simp; omega)); (repeat (first | exact Below.refl _ _ | assumption | refine Below.alloc ?_ (by first | omega | (simp; done) | (simp; omega)) _ | refine Below.drew ?_ | refine bdN ?_ _ | refine Below.setCell ?_ (by first | omega | (simp; done) | (simp; omega)) _)))⟩)
        · have y : Hid (payV f s p c i q a m x = ⟨i, q + dueV f s p c i q a m, m, x - dueV f s p c i q a m, true⟩) := by show _ = _; unfold payV; rw [if_neg (by omega), if_neg h1]; congr 1 <;> omega
          clear h1
          go_enter Tryd.func20, Tryd.ntmps20
          go_wp2_with (first | (go_at_call 16; refine (StayDue_i _ _ _ _ _ _ _ _ _).mono ?_; rintro e w' ⟨rfl, hb⟩; have hf := (bcell hb).2; (first | (replace hk := kp_step hk hb (by first | omega | (simp; done) | (simp; omega)); clear hb) | (have hk := kp_of (B := w.heap.size + 3) (W := ((w.alloc (.cells #[.int .i64 f, .int .i64 s, .int .i64 p, .int .i64 c] 24)).alloc (.cells #[.int .i64 i, .int .i64 q, .int .i64 a] 26)).alloc (.cells #[.int .i64 0, .int .i64 0, .int .i64 0] 26)) hb (by first | omega | (simp; done) | (simp; omega)); clear hb))))
          all_goals (refine bodyPost_ret (v := .tuple #[.agg #[.int .i64 (i), .int .i64 (q + dueV f s p c i q a m), .int .i64 (m)], .int .i64 (x - dueV f s p c i q a m), .bool true]) (by first | (simp [results, Tryd.results20, go_sem, hk.2]; done) | (simp [results, Tryd.results20, go_sem, hk.2]; omega)) rfl ⟨by rw [y.out], by (repeat (first | refine Below.alloc ?_ (by first | omega | (simp; done) | (simp; omega)) _ | refine Below.drew ?_ | refine bdN ?_ _ | refine Below.setCell ?_ (by first | omega | (simp; done) | (simp; omega)) _)); (refine kp_end (by assumption) ?_ (by first | omega | (simp; done) | (simp; omega)); (repeat (first | exact Below.refl _ _ | assumption | refine Below.alloc ?_ (by first | omega | (simp; done) | (simp; omega)) _ | refine Below.drew ?_ | refine bdN ?_ _ | refine Below.setCell ?_ (by first | omega | (simp; done) | (simp; omega)) _)))⟩)
    · have hr : inR x 1 300 = false := inR_no hx
      have y : Hid (payV f s p c i q a m x = ⟨0, 0, 0, x, false⟩) := by show _ = _; unfold payV; rw [if_pos (.inr (by omega))]
      rcases (show x < 1 ∨ 300 < x from by omega) with g | g
      all_goals
        clear hx
        go_enter Tryd.func20, Tryd.ntmps20
        go_wp2_with (first | (go_at_call 16; refine (StayDue_i _ _ _ _ _ _ _ _ _).mono ?_; rintro e w' ⟨rfl, hb⟩; have hf := (bcell hb).2; (first | (replace hk := kp_step hk hb (by first | omega | (simp; done) | (simp; omega)); clear hb) | (have hk := kp_of (B := w.heap.size + 3) (W := ((w.alloc (.cells #[.int .i64 f, .int .i64 s, .int .i64 p, .int .i64 c] 24)).alloc (.cells #[.int .i64 i, .int .i64 q, .int .i64 a] 26)).alloc (.cells #[.int .i64 0, .int .i64 0, .int .i64 0] 26)) hb (by first | omega | (simp; done) | (simp; omega)); clear hb))))
        all_goals (refine bodyPost_ret (v := .tuple #[.agg #[.int .i64 (0), .int .i64 (0), .int .i64 (0)], .int .i64 (x), .bool false]) (by first | (simp [results, Tryd.results20, go_sem, hk.2]; done) | (simp [results, Tryd.results20, go_sem, hk.2]; omega)) rfl ⟨by rw [y.out], by (repeat (first | refine Below.alloc ?_ (by first | omega | (simp; done) | (simp; omega)) _ | refine Below.drew ?_ | refine bdN ?_ _ | refine Below.setCell ?_ (by first | omega | (simp; done) | (simp; omega)) _)); (refine kp_end (by assumption) ?_ (by first | omega | (simp; done) | (simp; omega)); (repeat (first | exact Below.refl _ _ | assumption | refine Below.alloc ?_ (by first | omega | (simp; done) | (simp; omega)) _ | refine Below.drew ?_ | refine bdN ?_ _ | refine Below.setCell ?_ (by first | omega | (simp; done) | (simp; omega)) _)))⟩)
end Go.Proofs.YtnagghnmlcnbnaaDoor
