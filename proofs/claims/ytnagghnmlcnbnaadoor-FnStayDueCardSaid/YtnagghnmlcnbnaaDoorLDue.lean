/- The walks of laws.FnStayDue, FnMayLeave, FnPayStay: each returns true. No condition. -/
import Derived.Test.YtnagghnmlcnbnaaDoorDNow
import Derived.Test.YtnagghnmlcnbnaaDoorAliveL
import Derived.Test.YtnagghnmlcnbnaaDoorPLawA
namespace Go.Proofs.YtnagghnmlcnbnaaDoor
open Go.RowKit
set_option linter.unusedVariables false
set_option maxRecDepth 100000 in
set_option maxHeartbeats 2000000 in
theorem FnStayDue_walk (w : World) (A : Option Addr) (n cap : Nat) (zs : List Int) (h : Nums .u8 w A n cap zs) :
    Calls Tryd.prog 3 #[.slice A n cap] w fun e w' => e = .returned (.bool true) ∧ Below w.heap.size w w' := by
  go_enter Tryd.func3, Tryd.ntmps3
  by_cases hn : 1048576 < n
  · have hnb : decide (1048576 < n) = true := by simpa using hn
    clear h
    go_wp2
    go_ret
    exact ⟨rfl, by (repeat (first | exact Below.refl _ _ | assumption | refine Below.alloc ?_ (by first | omega | (simp; done) | (simp; omega)) _ | refine Below.drew ?_ | refine bdN ?_ _ | refine Below.setCell ?_ (by first | omega | (simp; done) | (simp; omega)) _))⟩
  · have hnb : decide (1048576 < n) = false := by simpa using hn
    go_wp2_with (go_at_call 15; refine (drawStayDue_ok A n cap zs _ h (by omega)).mono ?_; rintro E w1 ⟨a, b, c, d, e, f, g, m, rfl, ⟨ma, mb, mc, md, me, mf, mg⟩, hw⟩; clear h)
    unfold Sm at ma mb mc md me mf mg
    have hS := (Blk.new w1 24 #[.int .i64 a, .int .i64 b, .int .i64 c, .int .i64 d]).alloc (.cells #[.int .i64 e, .int .i64 f, .int .i64 g] 26)
    have hQ : Blk ((w1.alloc (.cells #[.int .i64 a, .int .i64 b, .int .i64 c, .int .i64 d] 24)).alloc (.cells #[.int .i64 e, .int .i64 f, .int .i64 g] 26)) (w1.heap.size + 1) 26 #[.int .i64 e, .int .i64 f, .int .i64 g] := by
      have := Blk.new (w1.alloc (.cells #[.int .i64 a, .int .i64 b, .int .i64 c, .int .i64 d] 24)) 26 #[.int .i64 e, .int .i64 f, .int .i64 g]
      simpa using this
    replace hw := (hw.alloc hw.size (.cells #[.int .i64 a, .int .i64 b, .int .i64 c, .int .i64 d] 24)).alloc (by have := hw.size; simp; omega) (.cells #[.int .i64 e, .int .i64 f, .int .i64 g] 26)
    have cS := hS.cell
    have cQ := hQ.cell
    have lS := hS.lt
    have lQ := hQ.lt
    obtain ⟨X, eX⟩ : ∃ X, dueV a b c d e f g m = X := ⟨_, rfl⟩
    have bX := dueV_bd a b c d e f g m
    have F_i : ∀ w, Calls Tryd.prog 16 #[.agg #[.int .i64 a, .int .i64 b, .int .i64 c, .int .i64 d], .agg #[.int .i64 e, .int .i64 f, .int .i64 g], .int .i64 m] w fun E w' => E = .returned (.int .i64 X) ∧ Below w.heap.size w w' := fun w => by have := StayDue_i a b c d e f g m w; rw [eX] at this; exact this
    have F_s : ∀ w, Calls Tryd.prog 17 #[.agg #[.int .i64 a, .int .i64 b, .int .i64 c, .int .i64 d], .agg #[.int .i64 e, .int .i64 f, .int .i64 g], .int .i64 m] w fun E w' => E = .returned (.int .i64 X) ∧ Below w.heap.size w w' := fun w => by have := StayDue_s a b c d e f g m w; rw [eX] at this; exact this
    by_cases hX : X < 0
    · obtain rfl : X = -1 := by omega
      clear eX bX
      go_wp2_with (first | (go_at_call 16; ((with_reducible refine (F_i _).mono ?_); rintro E wk ⟨rfl, hb⟩; replace hS := hS.below hb hS.lt; replace hQ := hQ.below hb hQ.lt; clear cS cQ; have cS := hS.cell; have cQ := hQ.cell; have lS := hS.lt; have lQ := hQ.lt; replace hw := bt hw hb; clear hb)) | (go_at_call 17; ((with_reducible refine (F_s _).mono ?_); rintro E wk ⟨rfl, hb⟩; replace hS := hS.below hb hS.lt; replace hQ := hQ.below hb hQ.lt; clear cS cQ; have cS := hS.cell; have cQ := hQ.cell; have lS := hS.lt; have lQ := hQ.lt; replace hw := bt hw hb; clear hb)) | (go_at_call 18; ((with_reducible refine (alive_ok _).mono ?_); rintro E wk ⟨rfl, hb⟩; replace hw := bt hw hb; clear hb)))
      all_goals (go_ret; exact ⟨rfl, hw⟩)
    · have v := dueV_nn (show 0 ≤ dueV a b c d e f g m by omega)
      have hsv := sv_bd v.2.1
      obtain ⟨Y, eY, fY⟩ : ∃ Y, dueV a b c d e f g (m + 1) = Y ∧ (m = 9999 ∨ m ≠ 9999 ∧ X ≤ Y) := ⟨_, rfl, by
        by_cases h9 : m = 9999
        · exact .inl h9
        · exact .inr ⟨h9, by have := due_later (show 0 ≤ dueV a b c d e f g m by omega) (by omega); omega⟩⟩
      obtain ⟨Z, eZ, fZ⟩ : ∃ Z, dueV a b c d e (f + 1) g m = Z ∧ (f = 9999 ∨ f ≠ 9999 ∧ Z = max (X - 1) 0) := ⟨_, rfl, by
        by_cases h9 : f = 9999
        · exact .inl h9
        · exact .inr ⟨h9, by have := due_more (show 0 ≤ dueV a b c d e f g m by omega) (by omega); rw [eX] at this; exact this⟩⟩
      have F_1 : ∀ w, Calls Tryd.prog 16 #[.agg #[.int .i64 a, .int .i64 b, .int .i64 c, .int .i64 d], .agg #[.int .i64 e, .int .i64 f, .int .i64 g], .int .i64 (m + 1)] w fun E w' => E = .returned (.int .i64 Y) ∧ Below w.heap.size w w' := fun w => by have := StayDue_i a b c d e f g (m + 1) w; rw [eY] at this; exact this
      have F_m : ∀ w, Calls Tryd.prog 16 #[.agg #[.int .i64 a, .int .i64 b, .int .i64 c, .int .i64 d], .agg #[.int .i64 e, .int .i64 (f + 1), .int .i64 g], .int .i64 m] w fun E w' => E = .returned (.int .i64 Z) ∧ Below w.heap.size w w' := fun w => by have := StayDue_i a b c d e (f + 1) g m w; rw [eZ] at this; exact this
      have hm0 : 0 ≤ m := by omega
      have hm9 : m ≤ 9999 := v.2.2.2
      have hX0 : 0 ≤ X := by omega
      have hX9 : X ≤ 693 := by omega
      clear eX eY eZ bX v hX
      go_upto_region 11 with (first | (go_at_call 16; ((with_reducible refine (F_i _).mono ?_); rintro E wk ⟨rfl, hb⟩; replace hS := hS.below hb hS.lt; replace hQ := hQ.below hb hQ.lt; clear cS cQ; have cS := hS.cell; have cQ := hQ.cell; have lS := hS.lt; have lQ := hQ.lt; replace hw := bt hw hb; clear hb)) | (go_at_call 17; ((with_reducible refine (F_s _).mono ?_); rintro E wk ⟨rfl, hb⟩; replace hS := hS.below hb hS.lt; replace hQ := hQ.below hb hQ.lt; clear cS cQ; have cS := hS.cell; have cQ := hQ.cell; have lS := hS.lt; have lQ := hQ.lt; replace hw := bt hw hb; clear hb)))
      have hM := Blk.new wk 26 #[.int .i64 e, .int .i64 (f + 1), .int .i64 g]
      replace hS := hS.alloc (.cells #[.int .i64 e, .int .i64 (f + 1), .int .i64 g] 26)
      replace hQ := hQ.alloc (.cells #[.int .i64 e, .int .i64 (f + 1), .int .i64 g] 26)
      replace hw := hw.alloc hw.size (.cells #[.int .i64 e, .int .i64 (f + 1), .int .i64 g] 26)
      generalize wk.alloc (.cells #[.int .i64 e, .int .i64 (f + 1), .int .i64 g] 26) = W at *
      generalize wk.heap.size = q at *
      clear cS cQ
      have cS := hS.cell
      have cQ := hQ.cell
      have cM := hM.cell
      have bf : decide (9999 < f + 1) = decide (f = 9999) := by rw [decide_eq_decide]; omega
      rcases fY with hY | ⟨hY', hY⟩
      · have n1 : (m == 9999) = true := by simp [hY]
        clear hY
        rcases fZ with hZ | ⟨hZ', hZ⟩
        · have n2 : decide (9999 < f + 1) = true := by simp; omega
          clear hZ bf
          go_wp2_with (first | (go_at_call 16; ((with_reducible refine (F_1 _).mono ?_); rintro E wk ⟨rfl, hb⟩; replace hM := hM.below hb hM.lt; clear cM; have cM := hM.cell; replace hS := hS.below hb hS.lt; replace hQ := hQ.below hb hQ.lt; clear cS cQ; have cS := hS.cell; have cQ := hQ.cell; have lS := hS.lt; have lQ := hQ.lt; replace hw := bt hw hb; clear hb)) | (go_at_call 16; ((with_reducible refine (F_m _).mono ?_); rintro E wk ⟨rfl, hb⟩; replace hM := hM.below hb hM.lt; clear cM; have cM := hM.cell; replace hS := hS.below hb hS.lt; replace hQ := hQ.below hb hQ.lt; clear cS cQ; have cS := hS.cell; have cQ := hQ.cell; have lS := hS.lt; have lQ := hQ.lt; replace hw := bt hw hb; clear hb)))
          all_goals (go_ret; exact ⟨rfl, hw⟩)
        · have n2 : decide (9999 < f + 1) = false := by simp; omega
          have n3 : (Z == max (X - 1) 0) = true := by simp [hZ]
          clear bf
          go_wp2_with (first | (go_at_call 16; ((with_reducible refine (F_1 _).mono ?_); rintro E wk ⟨rfl, hb⟩; replace hM := hM.below hb hM.lt; clear cM; have cM := hM.cell; replace hS := hS.below hb hS.lt; replace hQ := hQ.below hb hQ.lt; clear cS cQ; have cS := hS.cell; have cQ := hQ.cell; have lS := hS.lt; have lQ := hQ.lt; replace hw := bt hw hb; clear hb)) | (go_at_call 16; ((with_reducible refine (F_m _).mono ?_); rintro E wk ⟨rfl, hb⟩; replace hM := hM.below hb hM.lt; clear cM; have cM := hM.cell; replace hS := hS.below hb hS.lt; replace hQ := hQ.below hb hQ.lt; clear cS cQ; have cS := hS.cell; have cQ := hQ.cell; have lS := hS.lt; have lQ := hQ.lt; replace hw := bt hw hb; clear hb)))
          all_goals first | (go_ret; exact ⟨rfl, hw⟩) | (exfalso; clear hw; simp at *; omega)
      · have n1 : (m == 9999) = false := by simpa using hY'
        rcases fZ with hZ | ⟨hZ', hZ⟩
        · have n2 : decide (9999 < f + 1) = true := by simp; omega
          clear hZ bf
          go_wp2_with (first | (go_at_call 16; ((with_reducible refine (F_1 _).mono ?_); rintro E wk ⟨rfl, hb⟩; replace hM := hM.below hb hM.lt; clear cM; have cM := hM.cell; replace hS := hS.below hb hS.lt; replace hQ := hQ.below hb hQ.lt; clear cS cQ; have cS := hS.cell; have cQ := hQ.cell; have lS := hS.lt; have lQ := hQ.lt; replace hw := bt hw hb; clear hb)) | (go_at_call 16; ((with_reducible refine (F_m _).mono ?_); rintro E wk ⟨rfl, hb⟩; replace hM := hM.below hb hM.lt; clear cM; have cM := hM.cell; replace hS := hS.below hb hS.lt; replace hQ := hQ.below hb hQ.lt; clear cS cQ; have cS := hS.cell; have cQ := hQ.cell; have lS := hS.lt; have lQ := hQ.lt; replace hw := bt hw hb; clear hb)))
          all_goals (go_ret; exact ⟨rfl, hw⟩)
        · have n2 : decide (9999 < f + 1) = false := by simp; omega
          have n3 : (Z == max (X - 1) 0) = true := by simp [hZ]
          clear bf
          go_wp2_with (first | (go_at_call 16; ((with_reducible refine (F_1 _).mono ?_); rintro E wk ⟨rfl, hb⟩; replace hM := hM.below hb hM.lt; clear cM; have cM := hM.cell; replace hS := hS.below hb hS.lt; replace hQ := hQ.below hb hQ.lt; clear cS cQ; have cS := hS.cell; have cQ := hQ.cell; have lS := hS.lt; have lQ := hQ.lt; replace hw := bt hw hb; clear hb)) | (go_at_call 16; ((with_reducible refine (F_m _).mono ?_); rintro E wk ⟨rfl, hb⟩; replace hM := hM.below hb hM.lt; clear cM; have cM := hM.cell; replace hS := hS.below hb hS.lt; replace hQ := hQ.below hb hQ.lt; clear cS cQ; have cS := hS.cell; have cQ := hQ.cell; have lS := hS.lt; have lQ := hQ.lt; replace hw := bt hw hb; clear hb)))
          all_goals first | (go_ret; exact ⟨rfl, hw⟩) | (exfalso; clear hw; simp at *; omega)
end Go.Proofs.YtnagghnmlcnbnaaDoor
