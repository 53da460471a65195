/- The walk of laws.FnPayStay: it returns true. No condition. -/
import Derived.Test.YtnagghnmlcnbnaaDoorDPay
import Derived.Test.YtnagghnmlcnbnaaDoorAliveL
import Derived.Test.YtnagghnmlcnbnaaDoorPLawA
namespace Go.Proofs.YtnagghnmlcnbnaaDoor
open Go.RowKit
set_option linter.unusedVariables false
set_option maxRecDepth 100000 in
set_option maxHeartbeats 8000000 in
theorem FnPayStay_walk (w : World) (A : Option Addr) (n cap : Nat) (zs : List Int) (h : Nums .u8 w A n cap zs) :
    Calls Tryd.prog 4 #[.slice A n cap] w fun e w' => e = .returned (.bool true) ∧ Below w.heap.size w w' := by
  go_enter Tryd.func4, Tryd.ntmps4
  by_cases hn : 1048576 < n
  · have hnb : decide (1048576 < n) = true := by simpa using hn
    clear h
    go_wp2
    go_ret
    exact ⟨rfl, by (repeat (first | exact Below.refl _ _ | assumption | refine Below.alloc ?_ (by first | omega | (simp; done) | (simp; omega)) _ | refine Below.drew ?_ | refine bdN ?_ _ | refine Below.setCell ?_ (by first | omega | (simp; done) | (simp; omega)) _))⟩
  · have hnb : decide (1048576 < n) = false := by simpa using hn
    go_wp2_with (go_at_call 19; refine (drawPayStay_ok A n cap zs _ h (by omega)).mono ?_; rintro E w1 ⟨a, b, c, d, e, f, g, m, z, rfl, ⟨ma, mb, mc, md, me, mf, mg⟩, hw⟩; clear h)
    unfold Sm at ma mb mc md me mf mg
    have hS := (Blk.new w1 24 #[.int .i64 a, .int .i64 b, .int .i64 c, .int .i64 d]).alloc (.cells #[.int .i64 e, .int .i64 f, .int .i64 g] 26)
    have hQ : Blk ((w1.alloc (.cells #[.int .i64 a, .int .i64 b, .int .i64 c, .int .i64 d] 24)).alloc (.cells #[.int .i64 e, .int .i64 f, .int .i64 g] 26)) (w1.heap.size + 1) 26 #[.int .i64 e, .int .i64 f, .int .i64 g] := by
      have := Blk.new (w1.alloc (.cells #[.int .i64 a, .int .i64 b, .int .i64 c, .int .i64 d] 24)) 26 #[.int .i64 e, .int .i64 f, .int .i64 g]
      simpa using this
    replace hw := (hw.alloc hw.size (.cells #[.int .i64 a, .int .i64 b, .int .i64 c, .int .i64 d] 24)).alloc (by have := hw.size; simp; omega) (.cells #[.int .i64 e, .int .i64 f, .int .i64 g] 26)
    have cS := hS.cell
    have cQ := hQ.cell
    have lS := hS.lt
    have lQ := hQ.lt
    rcases pay_cases a b c d e f g m z with ⟨u1, u2, u3, eP⟩ | ⟨K, hK0, hKz, hz1, hz3, hKD, eP⟩
    · have P_i : ∀ w, Calls Tryd.prog 20 #[.agg #[.int .i64 a, .int .i64 b, .int .i64 c, .int .i64 d], .agg #[.int .i64 e, .int .i64 f, .int .i64 g], .int .i64 m, .int .i64 z] w fun E w' => E = .returned (.tuple #[.agg #[.int .i64 u1, .int .i64 u2, .int .i64 u3], .int .i64 z, .bool false]) ∧ Below w.heap.size w w' := fun w => by have := PayStay_i a b c d e f g m z w; rw [eP] at this; exact this
      have P_s : ∀ w, Calls Tryd.prog 21 #[.agg #[.int .i64 a, .int .i64 b, .int .i64 c, .int .i64 d], .agg #[.int .i64 e, .int .i64 f, .int .i64 g], .int .i64 m, .int .i64 z] w fun E w' => E = .returned (.tuple #[.agg #[.int .i64 u1, .int .i64 u2, .int .i64 u3], .int .i64 z, .bool false]) ∧ Below w.heap.size w w' := fun w => by have := PayStay_s a b c d e f g m z w; rw [eP] at this; exact this
      clear eP
      go_upto_region 5 with (go_at_call 20; ((with_reducible refine (P_i _).mono ?_); rintro E wk ⟨rfl, hb⟩; replace hS := hS.below hb hS.lt; replace hQ := hQ.below hb hQ.lt; clear cS cQ; have cS := hS.cell; have cQ := hQ.cell; have lS := hS.lt; have lQ := hQ.lt; replace hw := bt hw hb; clear hb))
      have hM := Blk.new wk 26 #[.int .i64 u1, .int .i64 u2, .int .i64 u3]
      replace hS := hS.alloc (.cells #[.int .i64 u1, .int .i64 u2, .int .i64 u3] 26)
      replace hQ := hQ.alloc (.cells #[.int .i64 u1, .int .i64 u2, .int .i64 u3] 26)
      replace hw := hw.alloc hw.size (.cells #[.int .i64 u1, .int .i64 u2, .int .i64 u3] 26)
      generalize wk.alloc (.cells #[.int .i64 u1, .int .i64 u2, .int .i64 u3] 26) = W at *
      generalize wk.heap.size = qhM at *
      clear cS cQ lS lQ
      have cS := hS.cell
      have cQ := hQ.cell
      have lS := hS.lt
      have lQ := hQ.lt
      have cM := hM.cell
      have lM := hM.lt
      go_upto_region 9 with (go_at_call 21; ((with_reducible refine (P_s _).mono ?_); rintro E wk ⟨rfl, hb⟩; replace hM := hM.below hb hM.lt; clear cM; have cM := hM.cell; have lM := hM.lt; replace hS := hS.below hb hS.lt; replace hQ := hQ.below hb hQ.lt; clear cS cQ; have cS := hS.cell; have cQ := hQ.cell; have lS := hS.lt; have lQ := hQ.lt; replace hw := bt hw hb; clear hb))
      have hY := Blk.new wk 26 #[.int .i64 u1, .int .i64 u2, .int .i64 u3]
      replace hS := hS.alloc (.cells #[.int .i64 u1, .int .i64 u2, .int .i64 u3] 26)
      replace hQ := hQ.alloc (.cells #[.int .i64 u1, .int .i64 u2, .int .i64 u3] 26)
      replace hM := hM.alloc (.cells #[.int .i64 u1, .int .i64 u2, .int .i64 u3] 26)
      replace hw := hw.alloc hw.size (.cells #[.int .i64 u1, .int .i64 u2, .int .i64 u3] 26)
      generalize wk.alloc (.cells #[.int .i64 u1, .int .i64 u2, .int .i64 u3] 26) = W at *
      generalize wk.heap.size = qhY at *
      clear cS cQ lS lQ cM
      have cS := hS.cell
      have cQ := hQ.cell
      have lS := hS.lt
      have lQ := hQ.lt
      have cY := hY.cell
      have cM := hM.cell
      have lY := hY.lt
      go_wp2_with (go_at_call 18; ((with_reducible refine (alive_ok _).mono ?_); rintro E wk ⟨rfl, hb⟩; replace hw := bt hw hb; clear hb))
      all_goals (go_ret; exact ⟨rfl, hw⟩)
    · obtain ⟨D, eD⟩ : ∃ D, dueV a b c d e f g m = D := ⟨_, rfl⟩
      have bD := dueV_bd a b c d e f g m
      obtain ⟨hsv, eL⟩ := due_paid (show 0 < dueV a b c d e f g m by omega) (Int.le_of_lt hK0) hKD
      rw [eD] at eL hKD bD
      have hb := sv_bd hsv
      have hb2 := sv_bd (dueV_nn (show 0 ≤ dueV a b c d e f g m by omega)).2.1
      have P_i : ∀ w, Calls Tryd.prog 20 #[.agg #[.int .i64 a, .int .i64 b, .int .i64 c, .int .i64 d], .agg #[.int .i64 e, .int .i64 f, .int .i64 g], .int .i64 m, .int .i64 z] w fun E w' => E = .returned (.tuple #[.agg #[.int .i64 e, .int .i64 (f + K), .int .i64 m], .int .i64 (z - K), .bool true]) ∧ Below w.heap.size w w' := fun w => by have := PayStay_i a b c d e f g m z w; rw [eP] at this; exact this
      have P_s : ∀ w, Calls Tryd.prog 21 #[.agg #[.int .i64 a, .int .i64 b, .int .i64 c, .int .i64 d], .agg #[.int .i64 e, .int .i64 f, .int .i64 g], .int .i64 m, .int .i64 z] w fun E w' => E = .returned (.tuple #[.agg #[.int .i64 e, .int .i64 (f + K), .int .i64 m], .int .i64 (z - K), .bool true]) ∧ Below w.heap.size w w' := fun w => by have := PayStay_s a b c d e f g m z w; rw [eP] at this; exact this
      have F_i : ∀ w, Calls Tryd.prog 16 #[.agg #[.int .i64 a, .int .i64 b, .int .i64 c, .int .i64 d], .agg #[.int .i64 e, .int .i64 f, .int .i64 g], .int .i64 m] w fun E w' => E = .returned (.int .i64 D) ∧ Below w.heap.size w w' := fun w => by have := StayDue_i a b c d e f g m w; rw [eD] at this; exact this
      have F_l : ∀ w, Calls Tryd.prog 16 #[.agg #[.int .i64 a, .int .i64 b, .int .i64 c, .int .i64 d], .agg #[.int .i64 e, .int .i64 (f + K), .int .i64 m], .int .i64 m] w fun E w' => E = .returned (.int .i64 (D - K)) ∧ Below w.heap.size w w' := fun w => by have := StayDue_i a b c d e (f + K) m m w; rw [eL] at this; exact this
      have S_v : ∀ w, Calls Tryd.prog 22 #[.agg #[.int .i64 e, .int .i64 (f + K), .int .i64 m]] w fun E w' => E = .returned (.bool true) ∧ Below w.heap.size w w' := fun w => by have := StayValid_i e (f + K) m w; rw [hsv] at this; exact this
      obtain ⟨⟨y1, y2, y3, y4, y5⟩, eY, fY⟩ : ∃ Y, payV a b c d e (f + K) m m 1 = Y ∧ (D - K ≤ 0 → Y = ⟨e, f + K, m, 1, false⟩) := ⟨_, rfl, fun h => by have := pay_none (f := a) (s := b) (p := c) (c := d) (i := e) (q := f + K) (a := m) (m := m) (by rw [eL]; omega); exact this⟩
      have P_1 : ∀ w, Calls Tryd.prog 20 #[.agg #[.int .i64 a, .int .i64 b, .int .i64 c, .int .i64 d], .agg #[.int .i64 e, .int .i64 (f + K), .int .i64 m], .int .i64 m, .int .i64 1] w fun E w' => E = .returned (.tuple #[.agg #[.int .i64 y1, .int .i64 y2, .int .i64 y3], .int .i64 y4, .bool y5]) ∧ Below w.heap.size w w' := fun w => by have := PayStay_i a b c d e (f + K) m m 1 w; rw [eY] at this; exact this
      clear eP eD eL eY hsv
      go_upto_region 5 with (go_at_call 20; ((with_reducible refine (P_i _).mono ?_); rintro E wk ⟨rfl, hb⟩; replace hS := hS.below hb hS.lt; replace hQ := hQ.below hb hQ.lt; clear cS cQ; have cS := hS.cell; have cQ := hQ.cell; have lS := hS.lt; have lQ := hQ.lt; replace hw := bt hw hb; clear hb))
      have hM := Blk.new wk 26 #[.int .i64 e, .int .i64 (f + K), .int .i64 m]
      replace hS := hS.alloc (.cells #[.int .i64 e, .int .i64 (f + K), .int .i64 m] 26)
      replace hQ := hQ.alloc (.cells #[.int .i64 e, .int .i64 (f + K), .int .i64 m] 26)
      replace hw := hw.alloc hw.size (.cells #[.int .i64 e, .int .i64 (f + K), .int .i64 m] 26)
      generalize wk.alloc (.cells #[.int .i64 e, .int .i64 (f + K), .int .i64 m] 26) = W at *
      generalize wk.heap.size = qhM at *
      clear cS cQ lS lQ
      have cS := hS.cell
      have cQ := hQ.cell
      have lS := hS.lt
      have lQ := hQ.lt
      have cM := hM.cell
      have lM := hM.lt
      go_upto_region 10 with (go_at_call 21; ((with_reducible refine (P_s _).mono ?_); rintro E wk ⟨rfl, hb⟩; replace hM := hM.below hb hM.lt; clear cM; have cM := hM.cell; have lM := hM.lt; replace hS := hS.below hb hS.lt; replace hQ := hQ.below hb hQ.lt; clear cS cQ; have cS := hS.cell; have cQ := hQ.cell; have lS := hS.lt; have lQ := hQ.lt; replace hw := bt hw hb; clear hb))
      have hY := Blk.new wk 26 #[.int .i64 e, .int .i64 (f + K), .int .i64 m]
      replace hS := hS.alloc (.cells #[.int .i64 e, .int .i64 (f + K), .int .i64 m] 26)
      replace hQ := hQ.alloc (.cells #[.int .i64 e, .int .i64 (f + K), .int .i64 m] 26)
      replace hM := hM.alloc (.cells #[.int .i64 e, .int .i64 (f + K), .int .i64 m] 26)
      replace hw := hw.alloc hw.size (.cells #[.int .i64 e, .int .i64 (f + K), .int .i64 m] 26)
      generalize wk.alloc (.cells #[.int .i64 e, .int .i64 (f + K), .int .i64 m] 26) = W at *
      generalize wk.heap.size = qhY at *
      clear cS cQ lS lQ cM
      have cS := hS.cell
      have cQ := hQ.cell
      have lS := hS.lt
      have lQ := hQ.lt
      have cY := hY.cell
      have cM := hM.cell
      have lY := hY.lt
      go_upto_region 13 with (first | (go_at_call 16; ((with_reducible refine (F_i _).mono ?_); rintro E wk ⟨rfl, hb⟩; replace hM := hM.below hb hM.lt; clear cM; have cM := hM.cell; have lM := hM.lt; replace hS := hS.below hb hS.lt; replace hQ := hQ.below hb hQ.lt; clear cS cQ; have cS := hS.cell; have cQ := hQ.cell; have lS := hS.lt; have lQ := hQ.lt; replace hw := bt hw hb; clear hb)) | (go_at_call 16; ((with_reducible refine (F_l _).mono ?_); rintro E wk ⟨rfl, hb⟩; replace hM := hM.below hb hM.lt; clear cM; have cM := hM.cell; have lM := hM.lt; replace hS := hS.below hb hS.lt; replace hQ := hQ.below hb hQ.lt; clear cS cQ; have cS := hS.cell; have cQ := hQ.cell; have lS := hS.lt; have lQ := hQ.lt; replace hw := bt hw hb; clear hb)) | (go_at_call 20; ((with_reducible refine (P_1 _).mono ?_); rintro E wk ⟨rfl, hb⟩; replace hM := hM.below hb hM.lt; clear cM; have cM := hM.cell; have lM := hM.lt; replace hS := hS.below hb hS.lt; replace hQ := hQ.below hb hQ.lt; clear cS cQ; have cS := hS.cell; have cQ := hQ.cell; have lS := hS.lt; have lQ := hQ.lt; replace hw := bt hw hb; clear hb)))
      have hZ := Blk.new wk 26 #[.int .i64 y1, .int .i64 y2, .int .i64 y3]
      replace hS := hS.alloc (.cells #[.int .i64 y1, .int .i64 y2, .int .i64 y3] 26)
      replace hQ := hQ.alloc (.cells #[.int .i64 y1, .int .i64 y2, .int .i64 y3] 26)
      replace hM := hM.alloc (.cells #[.int .i64 y1, .int .i64 y2, .int .i64 y3] 26)
      replace hw := hw.alloc hw.size (.cells #[.int .i64 y1, .int .i64 y2, .int .i64 y3] 26)
      generalize wk.alloc (.cells #[.int .i64 y1, .int .i64 y2, .int .i64 y3] 26) = W at *
      generalize wk.heap.size = qhZ at *
      clear cS cQ lS lQ cM
      have cS := hS.cell
      have cQ := hQ.cell
      have lS := hS.lt
      have lQ := hQ.lt
      have cZ := hZ.cell
      have cM := hM.cell
      have lZ := hZ.lt
      have k1 : f + K - f = K := by omega
      have k2 : K + (z - K) = z := by omega
      have k3 : decide (K ≤ D) = true := by simpa using hKD
      have k4 : wrap64 (f + K - f) = K := by rw [k1]; exact IntWalk.wrap64_in _ (by omega)
      clear k4
      by_cases hL : D - K ≤ 0
      · have := fY hL
        simp only [Paid.mk.injEq] at this
        obtain ⟨rfl, rfl, rfl, rfl, rfl⟩ := this
        have x1 : decide ((0 : Int) < D - K) = false := by simp; omega
        clear fY hL
        go_wp2_with (go_at_call 22; ((with_reducible refine (S_v _).mono ?_); rintro E wk ⟨rfl, hb⟩; replace hZ := hZ.below hb hZ.lt; clear cZ; have cZ := hZ.cell; have lZ := hZ.lt; replace hM := hM.below hb hM.lt; clear cM; have cM := hM.cell; have lM := hM.lt; replace hS := hS.below hb hS.lt; replace hQ := hQ.below hb hQ.lt; clear cS cQ; have cS := hS.cell; have cQ := hQ.cell; have lS := hS.lt; have lQ := hQ.lt; replace hw := bt hw hb; clear hb))
        all_goals first | (go_ret; exact ⟨rfl, hw⟩) | (exfalso; clear hw; simp at *; omega)
      · have x1 : decide ((0 : Int) < D - K) = true := by simp; omega
        clear fY hL
        go_wp2_with (go_at_call 22; ((with_reducible refine (S_v _).mono ?_); rintro E wk ⟨rfl, hb⟩; replace hZ := hZ.below hb hZ.lt; clear cZ; have cZ := hZ.cell; have lZ := hZ.lt; replace hM := hM.below hb hM.lt; clear cM; have cM := hM.cell; have lM := hM.lt; replace hS := hS.below hb hS.lt; replace hQ := hQ.below hb hQ.lt; clear cS cQ; have cS := hS.cell; have cQ := hQ.cell; have lS := hS.lt; have lQ := hQ.lt; replace hw := bt hw hb; clear hb))
        all_goals first | (go_ret; exact ⟨rfl, hw⟩) | (exfalso; clear hw; simp at *; omega)
end Go.Proofs.YtnagghnmlcnbnaaDoor
