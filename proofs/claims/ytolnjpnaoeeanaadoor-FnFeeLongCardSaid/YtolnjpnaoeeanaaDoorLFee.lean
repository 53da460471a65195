/- The walks of laws.FnTariffValid, FnFeeSteps, FnFeeOf, FnFeeLong: each returns true. No condition. -/
import Derived.Test.YtolnjpnaoeeanaaDoorLTar
namespace Go.Proofs.YtolnjpnaoeeanaaDoor
open Go.RowKit
set_option linter.unusedVariables false
set_option maxRecDepth 100000 in
theorem FnTariffValid_walk (w : World) (A : Option Addr) (n cap : Nat) (zs : List Int) (h : Nums .u8 w A n cap zs) :
    Calls Tryd.prog 4 #[.slice A n cap] w fun e w' => e = .returned (.bool true) ∧ Below w.heap.size w w' := by
  go_enter Tryd.func4, Tryd.ntmps4
  by_cases hn : 1048576 < n
  · have hnb : decide (1048576 < n) = true := by simpa using hn
    clear h
    go_wp2
    go_ret
    exact ⟨rfl, by (repeat (first | exact Below.refl _ _ | assumption | refine Below.alloc ?_ (by first | omega | (simp; done) | (simp; omega)) _ | refine Below.drew ?_ | refine bdN ?_ _ | refine Below.setCell ?_ (by first | omega | (simp; done) | (simp; omega)) _))⟩
  · have hnb : decide (1048576 < n) = false := by simpa using hn
    go_wp2_with (go_at_call 19; refine (drawTariffValid_ok A n cap zs _ h (by omega)).mono ?_; rintro e w1 ⟨a, b, c, d, rfl, ha, hb1, hc, hd, hw⟩; have hS := Blk.new w1 30 #[.int .i64 a, .int .i64 b, .int .i64 c, .int .i64 d]; replace hw := hw.alloc hw.size (.cells #[.int .i64 a, .int .i64 b, .int .i64 c, .int .i64 d] 30); have cS := hS.cell; clear h)
    unfold Sm at ha hb1 hc hd
    have e1 : tv a 0 c d = false := by unfold tv; rw [decide_eq_false_iff_not]; omega
    by_cases hv : tv a b c d = true
    · have e2 : tv a b 0 0 = true := by have := tv_bd hv; unfold tv; rw [decide_eq_true_iff]; omega
      go_wp2_with (first | (go_at_call 20; ((with_reducible refine (TariffValid_i _ _ _ _ _).mono ?_); rintro e wk ⟨rfl, hb⟩; replace hS := hS.below hb hS.lt; (try clear cS); have cS := hS.cell; replace hw := bt hw hb; clear hb)) | (go_at_call 21; ((with_reducible refine (TariffValid_s _ _ _ _ _).mono ?_); rintro e wk ⟨rfl, hb⟩; replace hS := hS.below hb hS.lt; (try clear cS); have cS := hS.cell; replace hw := bt hw hb; clear hb)) | (go_at_call 18; ((with_reducible refine (alive_ok _).mono ?_); rintro e wk ⟨rfl, hb⟩; replace hw := bt hw hb; clear hb)))
      all_goals (go_ret; exact ⟨rfl, hw⟩)
    · replace hv : tv a b c d = false := by simpa using hv
      go_wp2_with (first | (go_at_call 20; ((with_reducible refine (TariffValid_i _ _ _ _ _).mono ?_); rintro e wk ⟨rfl, hb⟩; replace hS := hS.below hb hS.lt; (try clear cS); have cS := hS.cell; replace hw := bt hw hb; clear hb)) | (go_at_call 21; ((with_reducible refine (TariffValid_s _ _ _ _ _).mono ?_); rintro e wk ⟨rfl, hb⟩; replace hS := hS.below hb hS.lt; (try clear cS); have cS := hS.cell; replace hw := bt hw hb; clear hb)) | (go_at_call 18; ((with_reducible refine (alive_ok _).mono ?_); rintro e wk ⟨rfl, hb⟩; replace hw := bt hw hb; clear hb)))
      all_goals (go_ret; exact ⟨rfl, hw⟩)
set_option maxRecDepth 100000 in
theorem FnFeeSteps_walk (w : World) (A : Option Addr) (n cap : Nat) (zs : List Int) (h : Nums .u8 w A n cap zs) :
    Calls Tryd.prog 7 #[.slice A n cap] w fun e w' => e = .returned (.bool true) ∧ Below w.heap.size w w' := by
  go_enter Tryd.func7, Tryd.ntmps7
  by_cases hn : 1048576 < n
  · have hnb : decide (1048576 < n) = true := by simpa using hn
    clear h
    go_wp2
    go_ret
    exact ⟨rfl, by (repeat (first | exact Below.refl _ _ | assumption | refine Below.alloc ?_ (by first | omega | (simp; done) | (simp; omega)) _ | refine Below.drew ?_ | refine bdN ?_ _ | refine Below.setCell ?_ (by first | omega | (simp; done) | (simp; omega)) _))⟩
  · have hnb : decide (1048576 < n) = false := by simpa using hn
    go_wp2_with (go_at_call 29; refine (drawFeeSteps_ok A n cap zs _ h (by omega)).mono ?_; rintro e w1 ⟨a, b, c, d, m, rfl, ha, hb1, hc, hd, hm, hw⟩; have hS := Blk.new w1 30 #[.int .i64 a, .int .i64 b, .int .i64 c, .int .i64 d]; replace hw := hw.alloc hw.size (.cells #[.int .i64 a, .int .i64 b, .int .i64 c, .int .i64 d] 30); have cS := hS.cell; clear h)
    unfold Sm at ha hb1 hc hd hm
    by_cases hv : tv a b c d = true ∧ 0 ≤ m ∧ m ≤ 9999
    · have hq := fsteps_bd a b m (by have := tv_bd hv.1; omega) (by have := tv_bd hv.1; omega) (by omega)
      have hr := fsteps_reach (f := a) (s := b) (m := m) (by have := tv_bd hv.1; omega)
      have hx := tv_bd hv.1
      have e : fstepsV a b c d m = fsteps a b m := by unfold fstepsV; rw [if_pos hv]
      have F_i : ∀ w, Calls Tryd.prog 30 #[.agg #[.int .i64 a, .int .i64 b, .int .i64 c, .int .i64 d], .int .i64 m] w fun e w' => e = .returned (.int .i64 (fsteps a b m)) ∧ Below w.heap.size w w' := fun w => by have := FeeSteps_i a b c d m w; rw [e] at this; exact this
      have F_s : ∀ w, Calls Tryd.prog 31 #[.agg #[.int .i64 a, .int .i64 b, .int .i64 c, .int .i64 d], .int .i64 m] w fun e w' => e = .returned (.int .i64 (fsteps a b m)) ∧ Below w.heap.size w w' := fun w => by have := FeeSteps_s a b c d m w; rw [e] at this; exact this
      clear e hv
      generalize fsteps a b m = N at *
      have p1 := mul_bd N b 9999 1440 (by omega) (by omega) (by omega) (by omega)
      have p2 : (N - 1) * b = N * b - b := by rw [Int.sub_mul]; omega
      have p3 : -1440 ≤ (N - 1) * b ∧ (N - 1) * b ≤ 14398560 := by omega
      have P2 := Lib.hid p2
      clear p2
      obtain ⟨hr1, hr2⟩ := hr
      rcases hr2 with hr2 | hr2
      · subst hr2
        go_wp2_with (first | (go_at_call 30; ((with_reducible refine (F_i _).mono ?_); rintro e wk ⟨rfl, hb⟩; replace hS := hS.below hb hS.lt; (try clear cS); have cS := hS.cell; replace hw := bt hw hb; clear hb)) | (go_at_call 31; ((with_reducible refine (F_s _).mono ?_); rintro e wk ⟨rfl, hb⟩; replace hS := hS.below hb hS.lt; (try clear cS); have cS := hS.cell; replace hw := bt hw hb; clear hb)) | (go_at_call 18; ((with_reducible refine (alive_ok _).mono ?_); rintro e wk ⟨rfl, hb⟩; replace hw := bt hw hb; clear hb)))
        all_goals first | (go_ret; exact ⟨rfl, hw⟩) | (exfalso; clear hw; simp at *; omega)
      · go_wp2_with (first | (go_at_call 30; ((with_reducible refine (F_i _).mono ?_); rintro e wk ⟨rfl, hb⟩; replace hS := hS.below hb hS.lt; (try clear cS); have cS := hS.cell; replace hw := bt hw hb; clear hb)) | (go_at_call 31; ((with_reducible refine (F_s _).mono ?_); rintro e wk ⟨rfl, hb⟩; replace hS := hS.below hb hS.lt; (try clear cS); have cS := hS.cell; replace hw := bt hw hb; clear hb)) | (go_at_call 18; ((with_reducible refine (alive_ok _).mono ?_); rintro e wk ⟨rfl, hb⟩; replace hw := bt hw hb; clear hb)))
        all_goals first | (go_ret; exact ⟨rfl, hw⟩) | (exfalso; clear hw; simp at *; omega)
    · have e : fstepsV a b c d m = -1 := by unfold fstepsV; rw [if_neg hv]
      have F_i : ∀ w, Calls Tryd.prog 30 #[.agg #[.int .i64 a, .int .i64 b, .int .i64 c, .int .i64 d], .int .i64 m] w fun e w' => e = .returned (.int .i64 (-1)) ∧ Below w.heap.size w w' := fun w => by have := FeeSteps_i a b c d m w; rw [e] at this; exact this
      have F_s : ∀ w, Calls Tryd.prog 31 #[.agg #[.int .i64 a, .int .i64 b, .int .i64 c, .int .i64 d], .int .i64 m] w fun e w' => e = .returned (.int .i64 (-1)) ∧ Below w.heap.size w w' := fun w => by have := FeeSteps_s a b c d m w; rw [e] at this; exact this
      clear e hv
      go_wp2_with (first | (go_at_call 30; ((with_reducible refine (F_i _).mono ?_); rintro e wk ⟨rfl, hb⟩; replace hS := hS.below hb hS.lt; (try clear cS); have cS := hS.cell; replace hw := bt hw hb; clear hb)) | (go_at_call 31; ((with_reducible refine (F_s _).mono ?_); rintro e wk ⟨rfl, hb⟩; replace hS := hS.below hb hS.lt; (try clear cS); have cS := hS.cell; replace hw := bt hw hb; clear hb)) | (go_at_call 18; ((with_reducible refine (alive_ok _).mono ?_); rintro e wk ⟨rfl, hb⟩; replace hw := bt hw hb; clear hb)))
      all_goals (go_ret; exact ⟨rfl, hw⟩)
set_option maxRecDepth 100000 in
theorem FnFeeOf_walk (w : World) (A : Option Addr) (n cap : Nat) (zs : List Int) (h : Nums .u8 w A n cap zs) :
    Calls Tryd.prog 9 #[.slice A n cap] w fun e w' => e = .returned (.bool true) ∧ Below w.heap.size w w' := by
  go_enter Tryd.func9, Tryd.ntmps9
  by_cases hn : 1048576 < n
  · have hnb : decide (1048576 < n) = true := by simpa using hn
    clear h
    go_wp2
    go_ret
    exact ⟨rfl, by (repeat (first | exact Below.refl _ _ | assumption | refine Below.alloc ?_ (by first | omega | (simp; done) | (simp; omega)) _ | refine Below.drew ?_ | refine bdN ?_ _ | refine Below.setCell ?_ (by first | omega | (simp; done) | (simp; omega)) _))⟩
  · have hnb : decide (1048576 < n) = false := by simpa using hn
    go_wp2_with (go_at_call 35; refine (drawFeeOf_ok A n cap zs _ h (by omega)).mono ?_; rintro e w1 ⟨a, b, c, d, m, rfl, ha, hb1, hc, hd, hm, hw⟩; have hS := Blk.new w1 30 #[.int .i64 a, .int .i64 b, .int .i64 c, .int .i64 d]; replace hw := hw.alloc hw.size (.cells #[.int .i64 a, .int .i64 b, .int .i64 c, .int .i64 d] 30); have cS := hS.cell; clear h)
    unfold Sm at ha hb1 hc hd hm
    by_cases hv : tv a b c d = true ∧ 0 ≤ m ∧ m ≤ 9999
    · have hb := fee_bd hv.1 hv.2.1 hv.2.2
      have ht := fee_top a b c d m
      have hdy := fee_day a b c d m
      have h1 := fee_succ (m := m) hv.1
      have hx := tv_bd hv.1
      have e : feeV a b c d m = fee a b c d m := by unfold feeV; rw [if_pos hv]
      have e1 : feeV a b c d (m + 1440) = if m + 1440 ≤ 9999 then fee a b c d m + d else -1 := by
        unfold feeV
        by_cases g : m + 1440 ≤ 9999
        · rw [if_pos ⟨hv.1, by omega, g⟩, if_pos g, hdy]
        · rw [if_neg (by intro h; omega), if_neg g]
      have e2 : feeV a b c d (m + 1) = if m + 1 ≤ 9999 then fee a b c d (m + 1) else -1 := by
        unfold feeV
        by_cases g : m + 1 ≤ 9999
        · rw [if_pos ⟨hv.1, by omega, g⟩, if_pos g]
        · rw [if_neg (by intro h; omega), if_neg g]
      have F_i : ∀ w, Calls Tryd.prog 36 #[.agg #[.int .i64 a, .int .i64 b, .int .i64 c, .int .i64 d], .int .i64 m] w fun e w' => e = .returned (.int .i64 (fee a b c d m)) ∧ Below w.heap.size w w' := fun w => by have := FeeOf_i a b c d m w; rw [e] at this; exact this
      have F_s : ∀ w, Calls Tryd.prog 37 #[.agg #[.int .i64 a, .int .i64 b, .int .i64 c, .int .i64 d], .int .i64 m] w fun e w' => e = .returned (.int .i64 (fee a b c d m)) ∧ Below w.heap.size w w' := fun w => by have := FeeOf_s a b c d m w; rw [e] at this; exact this
      have D0 : ∃ D, feeV a b c d (m + 1440) = D ∧ (D < 0 ∨ 0 ≤ D ∧ D = fee a b c d m + d) ∧ -1 ≤ D := ⟨_, rfl, by rw [e1]; split <;> omega, by rw [e1]; split <;> omega⟩
      obtain ⟨D, eD, fD, gD⟩ := D0
      have Y0 : ∃ Y, feeV a b c d (m + 1) = Y ∧ (m = 9999 ∨ m ≠ 9999 ∧ fee a b c d m ≤ Y) := ⟨_, rfl, by rw [e2]; split <;> omega⟩
      obtain ⟨Y, eY, fY⟩ := Y0
      have F_d : ∀ w, Calls Tryd.prog 36 #[.agg #[.int .i64 a, .int .i64 b, .int .i64 c, .int .i64 d], .int .i64 (m + 1440)] w fun e w' => e = .returned (.int .i64 D) ∧ Below w.heap.size w w' := fun w => by have := FeeOf_i a b c d (m + 1440) w; rw [eD] at this; exact this
      have F_1 : ∀ w, Calls Tryd.prog 36 #[.agg #[.int .i64 a, .int .i64 b, .int .i64 c, .int .i64 d], .int .i64 (m + 1)] w fun e w' => e = .returned (.int .i64 Y) ∧ Below w.heap.size w w' := fun w => by have := FeeOf_i a b c d (m + 1) w; rw [eY] at this; exact this
      obtain ⟨hm0, hm1⟩ := hv.2
      clear e e1 e2 eD eY hv h1 hdy
      generalize fee a b c d m = N at *
      have p1 := mul_bd (m / 1440 + 1) d 7 99 (by omega) (by omega) (by omega) (by omega)
      rcases fD with fD | ⟨fD', fD⟩
      · rcases fY with fY | ⟨fY', fY⟩
        · have n1 : (m == 9999) = true := by simp [fY]
          clear fY
          go_wp2_with (first | (go_at_call 36; ((with_reducible refine (F_i _).mono ?_); rintro e wk ⟨rfl, hb⟩; replace hS := hS.below hb hS.lt; (try clear cS); have cS := hS.cell; replace hw := bt hw hb; clear hb)) | (go_at_call 36; ((with_reducible refine (F_d _).mono ?_); rintro e wk ⟨rfl, hb⟩; replace hS := hS.below hb hS.lt; (try clear cS); have cS := hS.cell; replace hw := bt hw hb; clear hb)) | (go_at_call 36; ((with_reducible refine (F_1 _).mono ?_); rintro e wk ⟨rfl, hb⟩; replace hS := hS.below hb hS.lt; (try clear cS); have cS := hS.cell; replace hw := bt hw hb; clear hb)) | (go_at_call 37; ((with_reducible refine (F_s _).mono ?_); rintro e wk ⟨rfl, hb⟩; replace hS := hS.below hb hS.lt; (try clear cS); have cS := hS.cell; replace hw := bt hw hb; clear hb)) | (go_at_call 18; ((with_reducible refine (alive_ok _).mono ?_); rintro e wk ⟨rfl, hb⟩; replace hw := bt hw hb; clear hb)))
          all_goals first | (go_ret; exact ⟨rfl, hw⟩) | (exfalso; clear hw; simp at *; omega)
        · have n1 : (m == 9999) = false := by simpa using fY'
          go_wp2_with (first | (go_at_call 36; ((with_reducible refine (F_i _).mono ?_); rintro e wk ⟨rfl, hb⟩; replace hS := hS.below hb hS.lt; (try clear cS); have cS := hS.cell; replace hw := bt hw hb; clear hb)) | (go_at_call 36; ((with_reducible refine (F_d _).mono ?_); rintro e wk ⟨rfl, hb⟩; replace hS := hS.below hb hS.lt; (try clear cS); have cS := hS.cell; replace hw := bt hw hb; clear hb)) | (go_at_call 36; ((with_reducible refine (F_1 _).mono ?_); rintro e wk ⟨rfl, hb⟩; replace hS := hS.below hb hS.lt; (try clear cS); have cS := hS.cell; replace hw := bt hw hb; clear hb)) | (go_at_call 37; ((with_reducible refine (F_s _).mono ?_); rintro e wk ⟨rfl, hb⟩; replace hS := hS.below hb hS.lt; (try clear cS); have cS := hS.cell; replace hw := bt hw hb; clear hb)) | (go_at_call 18; ((with_reducible refine (alive_ok _).mono ?_); rintro e wk ⟨rfl, hb⟩; replace hw := bt hw hb; clear hb)))
          all_goals first | (go_ret; exact ⟨rfl, hw⟩) | (exfalso; clear hw; simp at *; omega)
      · subst fD
        rcases fY with fY | ⟨fY', fY⟩
        · have n1 : (m == 9999) = true := by simp [fY]
          clear fY
          go_wp2_with (first | (go_at_call 36; ((with_reducible refine (F_i _).mono ?_); rintro e wk ⟨rfl, hb⟩; replace hS := hS.below hb hS.lt; (try clear cS); have cS := hS.cell; replace hw := bt hw hb; clear hb)) | (go_at_call 36; ((with_reducible refine (F_d _).mono ?_); rintro e wk ⟨rfl, hb⟩; replace hS := hS.below hb hS.lt; (try clear cS); have cS := hS.cell; replace hw := bt hw hb; clear hb)) | (go_at_call 36; ((with_reducible refine (F_1 _).mono ?_); rintro e wk ⟨rfl, hb⟩; replace hS := hS.below hb hS.lt; (try clear cS); have cS := hS.cell; replace hw := bt hw hb; clear hb)) | (go_at_call 37; ((with_reducible refine (F_s _).mono ?_); rintro e wk ⟨rfl, hb⟩; replace hS := hS.below hb hS.lt; (try clear cS); have cS := hS.cell; replace hw := bt hw hb; clear hb)) | (go_at_call 18; ((with_reducible refine (alive_ok _).mono ?_); rintro e wk ⟨rfl, hb⟩; replace hw := bt hw hb; clear hb)))
          all_goals first | (go_ret; exact ⟨rfl, hw⟩) | (exfalso; clear hw; simp at *; omega)
        · have n1 : (m == 9999) = false := by simpa using fY'
          go_wp2_with (first | (go_at_call 36; ((with_reducible refine (F_i _).mono ?_); rintro e wk ⟨rfl, hb⟩; replace hS := hS.below hb hS.lt; (try clear cS); have cS := hS.cell; replace hw := bt hw hb; clear hb)) | (go_at_call 36; ((with_reducible refine (F_d _).mono ?_); rintro e wk ⟨rfl, hb⟩; replace hS := hS.below hb hS.lt; (try clear cS); have cS := hS.cell; replace hw := bt hw hb; clear hb)) | (go_at_call 36; ((with_reducible refine (F_1 _).mono ?_); rintro e wk ⟨rfl, hb⟩; replace hS := hS.below hb hS.lt; (try clear cS); have cS := hS.cell; replace hw := bt hw hb; clear hb)) | (go_at_call 37; ((with_reducible refine (F_s _).mono ?_); rintro e wk ⟨rfl, hb⟩; replace hS := hS.below hb hS.lt; (try clear cS); have cS := hS.cell; replace hw := bt hw hb; clear hb)) | (go_at_call 18; ((with_reducible refine (alive_ok _).mono ?_); rintro e wk ⟨rfl, hb⟩; replace hw := bt hw hb; clear hb)))
          all_goals first | (go_ret; exact ⟨rfl, hw⟩) | (exfalso; clear hw; simp at *; omega)
    · have e : feeV a b c d m = -1 := by unfold feeV; rw [if_neg hv]
      have F_i : ∀ w, Calls Tryd.prog 36 #[.agg #[.int .i64 a, .int .i64 b, .int .i64 c, .int .i64 d], .int .i64 m] w fun e w' => e = .returned (.int .i64 (-1)) ∧ Below w.heap.size w w' := fun w => by have := FeeOf_i a b c d m w; rw [e] at this; exact this
      have F_s : ∀ w, Calls Tryd.prog 37 #[.agg #[.int .i64 a, .int .i64 b, .int .i64 c, .int .i64 d], .int .i64 m] w fun e w' => e = .returned (.int .i64 (-1)) ∧ Below w.heap.size w w' := fun w => by have := FeeOf_s a b c d m w; rw [e] at this; exact this
      clear e hv
      go_wp2_with (first | (go_at_call 36; ((with_reducible refine (F_i _).mono ?_); rintro e wk ⟨rfl, hb⟩; replace hS := hS.below hb hS.lt; (try clear cS); have cS := hS.cell; replace hw := bt hw hb; clear hb)) | (go_at_call 37; ((with_reducible refine (F_s _).mono ?_); rintro e wk ⟨rfl, hb⟩; replace hS := hS.below hb hS.lt; (try clear cS); have cS := hS.cell; replace hw := bt hw hb; clear hb)) | (go_at_call 18; ((with_reducible refine (alive_ok _).mono ?_); rintro e wk ⟨rfl, hb⟩; replace hw := bt hw hb; clear hb)))
      all_goals (go_ret; exact ⟨rfl, hw⟩)
set_option maxRecDepth 100000 in
theorem FnFeeLong_walk (w : World) (A : Option Addr) (n cap : Nat) (zs : List Int) (h : Nums .u8 w A n cap zs) :
    Calls Tryd.prog 11 #[.slice A n cap] w fun e w' => e = .returned (.bool true) ∧ Below w.heap.size w w' := by
  go_enter Tryd.func11, Tryd.ntmps11
  by_cases hn : 1048576 < n
  · have hnb : decide (1048576 < n) = true := by simpa using hn
    clear h
    go_wp2
    go_ret
    exact ⟨rfl, by (repeat (first | exact Below.refl _ _ | assumption | refine Below.alloc ?_ (by first | omega | (simp; done) | (simp; omega)) _ | refine Below.drew ?_ | refine bdN ?_ _ | refine Below.setCell ?_ (by first | omega | (simp; done) | (simp; omega)) _))⟩
  · have hnb : decide (1048576 < n) = false := by simpa using hn
    go_wp2_with (go_at_call 41; refine (drawFeeLong_ok A n cap zs _ h (by omega)).mono ?_; rintro e w1 ⟨a, b, c, d, m, rfl, ha, hb1, hc, hd, hm, hw⟩; have hS := Blk.new w1 30 #[.int .i64 a, .int .i64 b, .int .i64 c, .int .i64 d]; replace hw := hw.alloc hw.size (.cells #[.int .i64 a, .int .i64 b, .int .i64 c, .int .i64 d] 30); have cS := hS.cell; clear h)
    unfold Sm at ha hb1 hc hd hm
    by_cases hv : tv a b c d = true ∧ 0 ≤ m
    · have q1 := fdown_fee (f := a) (s := b) (p := c) (c := d) (x := m) (by rw [fee_zero hv.1]; exact hv.2) 9999
      have q2 := fdown_next (f := a) (s := b) (p := c) (c := d) (x := m) 9999
      have q3 := fdown_le a b c d m 9999
      have e : flongV a b c d m = ((fdown a b c d m 9999 : Nat) : Int) := by unfold flongV; rw [if_pos hv]
      obtain ⟨N, hN⟩ : ∃ N : Nat, fdown a b c d m 9999 = N := ⟨_, rfl⟩
      rw [hN] at q1 q2 q3 e
      have q4 := fee_bd (m := (N : Int)) hv.1 (by omega) (by omega)
      have e1 : feeV a b c d (N : Int) = fee a b c d (N : Int) := by unfold feeV; rw [if_pos ⟨hv.1, by omega, by omega⟩]
      have Y0 : ∃ Y, feeV a b c d ((N : Int) + 1) = Y ∧ ((N : Int) = 9999 ∨ (N : Int) ≠ 9999 ∧ m < Y) := by
        by_cases g : N < 9999
        · refine ⟨_, rfl, .inr ⟨by omega, ?_⟩⟩
          unfold feeV
          rw [if_pos ⟨hv.1, by omega, by omega⟩]
          exact q2 g
        · exact ⟨_, rfl, .inl (by omega)⟩
      obtain ⟨Y, eY, fY⟩ := Y0
      obtain ⟨X, eX⟩ : ∃ X, fee a b c d (N : Int) = X := ⟨_, rfl⟩
      rw [eX] at q1 q4 e1
      have F_i : ∀ w, Calls Tryd.prog 42 #[.agg #[.int .i64 a, .int .i64 b, .int .i64 c, .int .i64 d], .int .i64 m] w fun e w' => e = .returned (.int .i64 (N : Int)) ∧ Below w.heap.size w w' := fun w => by have := FeeLong_i a b c d m w; rw [e] at this; exact this
      have F_s : ∀ w, Calls Tryd.prog 43 #[.agg #[.int .i64 a, .int .i64 b, .int .i64 c, .int .i64 d], .int .i64 m] w fun e w' => e = .returned (.int .i64 (N : Int)) ∧ Below w.heap.size w w' := fun w => by have := FeeLong_s a b c d m w; rw [e] at this; exact this
      have F_d : ∀ w, Calls Tryd.prog 36 #[.agg #[.int .i64 a, .int .i64 b, .int .i64 c, .int .i64 d], .int .i64 (N : Int)] w fun e w' => e = .returned (.int .i64 X) ∧ Below w.heap.size w w' := fun w => by have := FeeOf_i a b c d (N : Int) w; rw [e1] at this; exact this
      have F_1 : ∀ w, Calls Tryd.prog 36 #[.agg #[.int .i64 a, .int .i64 b, .int .i64 c, .int .i64 d], .int .i64 ((N : Int) + 1)] w fun e w' => e = .returned (.int .i64 Y) ∧ Below w.heap.size w w' := fun w => by have := FeeOf_i a b c d ((N : Int) + 1) w; rw [eY] at this; exact this
      clear e e1 eX eY hv hN q2
      have hN0 : (0 : Int) ≤ (N : Int) := by omega
      have hN1 : (N : Int) ≤ 9999 := by omega
      clear q3
      generalize (N : Int) = M at *
      rcases fY with rfl | ⟨fY', fY⟩
      · go_wp2_with (first | (go_at_call 42; ((with_reducible refine (F_i _).mono ?_); rintro e wk ⟨rfl, hb⟩; replace hS := hS.below hb hS.lt; (try clear cS); have cS := hS.cell; replace hw := bt hw hb; clear hb)) | (go_at_call 36; ((with_reducible refine (F_d _).mono ?_); rintro e wk ⟨rfl, hb⟩; replace hS := hS.below hb hS.lt; (try clear cS); have cS := hS.cell; replace hw := bt hw hb; clear hb)) | (go_at_call 36; ((with_reducible refine (F_1 _).mono ?_); rintro e wk ⟨rfl, hb⟩; replace hS := hS.below hb hS.lt; (try clear cS); have cS := hS.cell; replace hw := bt hw hb; clear hb)) | (go_at_call 43; ((with_reducible refine (F_s _).mono ?_); rintro e wk ⟨rfl, hb⟩; replace hS := hS.below hb hS.lt; (try clear cS); have cS := hS.cell; replace hw := bt hw hb; clear hb)) | (go_at_call 18; ((with_reducible refine (alive_ok _).mono ?_); rintro e wk ⟨rfl, hb⟩; replace hw := bt hw hb; clear hb)))
        all_goals first | (go_ret; exact ⟨rfl, hw⟩) | (exfalso; clear hw; simp at *; omega)
      · have n1 : (M == 9999) = false := by simpa using fY'
        go_wp2_with (first | (go_at_call 42; ((with_reducible refine (F_i _).mono ?_); rintro e wk ⟨rfl, hb⟩; replace hS := hS.below hb hS.lt; (try clear cS); have cS := hS.cell; replace hw := bt hw hb; clear hb)) | (go_at_call 36; ((with_reducible refine (F_d _).mono ?_); rintro e wk ⟨rfl, hb⟩; replace hS := hS.below hb hS.lt; (try clear cS); have cS := hS.cell; replace hw := bt hw hb; clear hb)) | (go_at_call 36; ((with_reducible refine (F_1 _).mono ?_); rintro e wk ⟨rfl, hb⟩; replace hS := hS.below hb hS.lt; (try clear cS); have cS := hS.cell; replace hw := bt hw hb; clear hb)) | (go_at_call 43; ((with_reducible refine (F_s _).mono ?_); rintro e wk ⟨rfl, hb⟩; replace hS := hS.below hb hS.lt; (try clear cS); have cS := hS.cell; replace hw := bt hw hb; clear hb)) | (go_at_call 18; ((with_reducible refine (alive_ok _).mono ?_); rintro e wk ⟨rfl, hb⟩; replace hw := bt hw hb; clear hb)))
        all_goals first | (go_ret; exact ⟨rfl, hw⟩) | (exfalso; clear hw; simp at *; omega)
    · have e : flongV a b c d m = -1 := by unfold flongV; rw [if_neg hv]
      have F_i : ∀ w, Calls Tryd.prog 42 #[.agg #[.int .i64 a, .int .i64 b, .int .i64 c, .int .i64 d], .int .i64 m] w fun e w' => e = .returned (.int .i64 (-1)) ∧ Below w.heap.size w w' := fun w => by have := FeeLong_i a b c d m w; rw [e] at this; exact this
      have F_s : ∀ w, Calls Tryd.prog 43 #[.agg #[.int .i64 a, .int .i64 b, .int .i64 c, .int .i64 d], .int .i64 m] w fun e w' => e = .returned (.int .i64 (-1)) ∧ Below w.heap.size w w' := fun w => by have := FeeLong_s a b c d m w; rw [e] at this; exact this
      clear e hv
      go_wp2_with (first | (go_at_call 42; ((with_reducible refine (F_i _).mono ?_); rintro e wk ⟨rfl, hb⟩; replace hS := hS.below hb hS.lt; (try clear cS); have cS := hS.cell; replace hw := bt hw hb; clear hb)) | (go_at_call 43; ((with_reducible refine (F_s _).mono ?_); rintro e wk ⟨rfl, hb⟩; replace hS := hS.below hb hS.lt; (try clear cS); have cS := hS.cell; replace hw := bt hw hb; clear hb)) | (go_at_call 18; ((with_reducible refine (alive_ok _).mono ?_); rintro e wk ⟨rfl, hb⟩; replace hw := bt hw hb; clear hb)))
      all_goals (go_ret; exact ⟨rfl, hw⟩)
end Go.Proofs.YtolnjpnaoeeanaaDoor
