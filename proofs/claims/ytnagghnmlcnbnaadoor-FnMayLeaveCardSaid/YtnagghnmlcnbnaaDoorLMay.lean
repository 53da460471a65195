/- The walk of laws.FnMayLeave: it returns true. No condition. -/
import Derived.Test.YtnagghnmlcnbnaaDoorDNow
import Derived.Test.YtnagghnmlcnbnaaDoorAliveL
import Derived.Test.YtnagghnmlcnbnaaDoorPLawA
namespace Go.Proofs.YtnagghnmlcnbnaaDoor
open Go.RowKit
set_option linter.unusedVariables false
set_option maxRecDepth 100000 in
set_option maxHeartbeats 12000000 in
theorem FnMayLeave_walk (w : World) (A : Option Addr) (n cap : Nat) (zs : List Int) (h : Nums .u8 w A n cap zs) :
    Calls Tryd.prog 5 #[.slice A n cap] w fun e w' => e = .returned (.bool true) ∧ Below w.heap.size w w' := by
  go_enter Tryd.func5, Tryd.ntmps5
  by_cases hn : 1048576 < n
  · have hnb : decide (1048576 < n) = true := by simpa using hn
    clear h
    go_wp2
    go_ret
    exact ⟨rfl, by (repeat (first | exact Below.refl _ _ | assumption | refine Below.alloc ?_ (by first | omega | (simp; done) | (simp; omega)) _ | refine Below.drew ?_ | refine bdN ?_ _ | refine Below.setCell ?_ (by first | omega | (simp; done) | (simp; omega)) _))⟩
  · have hnb : decide (1048576 < n) = false := by simpa using hn
    go_wp2_with (go_at_call 23; refine (drawMayLeave_ok A n cap zs _ h (by omega)).mono ?_; rintro E w1 ⟨a, b, c, d, e, f, g, m, rfl, ⟨ma, mb, mc, md, me, mf, mg⟩, hw⟩; clear h)
    unfold Sm at ma mb mc md me mf mg
    have hS := (Blk.new w1 24 #[.int .i64 a, .int .i64 b, .int .i64 c, .int .i64 d]).alloc (.cells #[.int .i64 e, .int .i64 f, .int .i64 g] 26)
    have hQ : Blk ((w1.alloc (.cells #[.int .i64 a, .int .i64 b, .int .i64 c, .int .i64 d] 24)).alloc (.cells #[.int .i64 e, .int .i64 f, .int .i64 g] 26)) (w1.heap.size + 1) 26 #[.int .i64 e, .int .i64 f, .int .i64 g] := by
      have := Blk.new (w1.alloc (.cells #[.int .i64 a, .int .i64 b, .int .i64 c, .int .i64 d] 24)) 26 #[.int .i64 e, .int .i64 f, .int .i64 g]
      simpa using this
    replace hw := (hw.alloc hw.size (.cells #[.int .i64 a, .int .i64 b, .int .i64 c, .int .i64 d] 24)).alloc (by have := hw.size; simp; omega) (.cells #[.int .i64 e, .int .i64 f, .int .i64 g] 26)
    have cS := hS.cell
    have cQ := hQ.cell
    have lS := hS.lt
    have lQ := hQ.lt
    obtain ⟨X, eX⟩ : ∃ X, dueV a b c d e f g m = X := ⟨_, rfl⟩
    obtain ⟨M, eM⟩ : ∃ M, mlV a b c d e f g m = M := ⟨_, rfl⟩
    have bX := dueV_bd a b c d e f g m
    have F_i : ∀ w, Calls Tryd.prog 16 #[.agg #[.int .i64 a, .int .i64 b, .int .i64 c, .int .i64 d], .agg #[.int .i64 e, .int .i64 f, .int .i64 g], .int .i64 m] w fun E w' => E = .returned (.int .i64 X) ∧ Below w.heap.size w w' := fun w => by have := StayDue_i a b c d e f g m w; rw [eX] at this; exact this
    have L_i : ∀ w, Calls Tryd.prog 24 #[.agg #[.int .i64 a, .int .i64 b, .int .i64 c, .int .i64 d], .agg #[.int .i64 e, .int .i64 f, .int .i64 g], .int .i64 m] w fun E w' => E = .returned (.bool M) ∧ Below w.heap.size w w' := fun w => by have := MayLeave_i a b c d e f g m w; rw [eM] at this; exact this
    have L_s : ∀ w, Calls Tryd.prog 25 #[.agg #[.int .i64 a, .int .i64 b, .int .i64 c, .int .i64 d], .agg #[.int .i64 e, .int .i64 f, .int .i64 g], .int .i64 m] w fun E w' => E = .returned (.bool M) ∧ Below w.heap.size w w' := fun w => by have := MayLeave_s a b c d e f g m w; rw [eM] at this; exact this
    by_cases hX : X < 0
    · have hM := ml_neg (show dueV a b c d e f g m < 0 by omega)
      rw [eM] at hM
      subst hM
      clear eX eM bX
      go_wp2_with (first | (go_at_call 24; ((with_reducible refine (L_i _).mono ?_); rintro E wk ⟨rfl, hb⟩; replace hS := hS.below hb hS.lt; replace hQ := hQ.below hb hQ.lt; clear cS cQ; have cS := hS.cell; have cQ := hQ.cell; have lS := hS.lt; have lQ := hQ.lt; replace hw := bt hw hb; clear hb)) | (go_at_call 25; ((with_reducible refine (L_s _).mono ?_); rintro E wk ⟨rfl, hb⟩; replace hS := hS.below hb hS.lt; replace hQ := hQ.below hb hQ.lt; clear cS cQ; have cS := hS.cell; have cQ := hQ.cell; have lS := hS.lt; have lQ := hQ.lt; replace hw := bt hw hb; clear hb)) | (go_at_call 16; ((with_reducible refine (F_i _).mono ?_); rintro E wk ⟨rfl, hb⟩; replace hS := hS.below hb hS.lt; replace hQ := hQ.below hb hQ.lt; clear cS cQ; have cS := hS.cell; have cQ := hQ.cell; have lS := hS.lt; have lQ := hQ.lt; replace hw := bt hw hb; clear hb)) | (go_at_call 18; ((with_reducible refine (alive_ok _).mono ?_); rintro E wk ⟨rfl, hb⟩; replace hw := bt hw hb; clear hb)))
      all_goals (go_ret; exact ⟨rfl, hw⟩)
    · have v := dueV_nn (show 0 ≤ dueV a b c d e f g m by omega)
      have hsv := sv_bd v.2.1
      have hm9 : m ≤ 9999 := v.2.2.2
      have hgm : g ≤ m := v.2.2.1
      have hX9 : X ≤ 693 := by omega
      have u1 : IntKind.i64.wrap (m - g) = m - g := IntWalk.i64_in _ (by omega)
      have u2 : IntKind.i64.wrap (g - e) = g - e := IntWalk.i64_in _ (by omega)
      have U1 := Lib.hid u1
      have U2 := Lib.hid u2
      clear u1 u2
      go_upto_region 10 with (first | (go_at_call 24; ((with_reducible refine (L_i _).mono ?_); rintro E wk ⟨rfl, hb⟩; replace hS := hS.below hb hS.lt; replace hQ := hQ.below hb hQ.lt; clear cS cQ; have cS := hS.cell; have cQ := hQ.cell; have lS := hS.lt; have lQ := hQ.lt; replace hw := bt hw hb; clear hb)) | (go_at_call 25; ((with_reducible refine (L_s _).mono ?_); rintro E wk ⟨rfl, hb⟩; replace hS := hS.below hb hS.lt; replace hQ := hQ.below hb hQ.lt; clear cS cQ; have cS := hS.cell; have cQ := hQ.cell; have lS := hS.lt; have lQ := hQ.lt; replace hw := bt hw hb; clear hb)) | (go_at_call 16; ((with_reducible refine (F_i _).mono ?_); rintro E wk ⟨rfl, hb⟩; replace hS := hS.below hb hS.lt; replace hQ := hQ.below hb hQ.lt; clear cS cQ; have cS := hS.cell; have cQ := hQ.cell; have lS := hS.lt; have lQ := hQ.lt; replace hw := bt hw hb; clear hb)))
      go_cut [72] (fun v wx => v = .bool false ∧ Blk wx w1.heap.size 24 #[.int .i64 a, .int .i64 b, .int .i64 c, .int .i64 d] ∧ Blk wx (w1.heap.size + 1) 26 #[.int .i64 e, .int .i64 f, .int .i64 g] ∧ Below w.heap.size w wx)
      case first =>
        by_cases hX0 : X = 0
        · have hM := ml_zero (show dueV a b c d e f g m = 0 by omega)
          rw [eM] at hM
          subst hM
          have x1 : decide ((0 : Int) < X) = false := by simp; omega
          clear eX eM bX F_i L_i L_s hX v hX0
          go_quiet (fail)
          all_goals (go_wp2_with fail; go_meet; exact ⟨rfl, hS.drewN _, hQ.drewN _, bdN hw _⟩)
        · have x1 : decide ((0 : Int) < X) = true := by simp; omega
          have x2 : (X == 0) = false := by simpa using hX0
          cases M
          · clear eX eM bX F_i L_i L_s hX v
            go_quiet (fail)
            all_goals (go_wp2_with fail; go_meet; exact ⟨rfl, hS.drewN _, hQ.drewN _, bdN hw _⟩)
          · have k := ml_some eM (by omega)
            have x3 : decide ((15 : Int) < m - g) = false := by simp; omega
            obtain ⟨V, eV, fV⟩ : ∃ V, feeV a b c d (g - e) = V ∧ V ≤ f := ⟨_, rfl, by unfold feeV; rw [if_pos ⟨v.1, by omega, by omega⟩]; exact k.2⟩
            have x4 : decide (f < V) = false := by simp; omega
            have F_f : ∀ w, Calls Tryd.prog 26 #[.agg #[.int .i64 a, .int .i64 b, .int .i64 c, .int .i64 d], .int .i64 (g - e)] w fun E w' => E = .returned (.int .i64 V) ∧ Below w.heap.size w w' := fun w => by have := FeeOf_i a b c d (g - e) w; rw [eV] at this; exact this
            clear eX eM eV bX F_i L_i L_s hX v k fV
            have u1 := U1.out
            have u2 := U2.out
            have hB := hw.size
            first | (go_region_held (fun w' => w'.cell? ⟨w1.heap.size, 0, none⟩ = some (.int .i64 a) ∧ w'.cell? ⟨w1.heap.size, 1, none⟩ = some (.int .i64 b) ∧ w'.cell? ⟨w1.heap.size, 2, none⟩ = some (.int .i64 c) ∧ w'.cell? ⟨w1.heap.size, 3, none⟩ = some (.int .i64 d) ∧ w'.cell? ⟨w1.heap.size + 1, 0, none⟩ = some (.int .i64 e) ∧ w'.cell? ⟨w1.heap.size + 1, 1, none⟩ = some (.int .i64 f) ∧ w'.cell? ⟨w1.heap.size + 1, 2, none⟩ = some (.int .i64 g)) (exact ⟨cS 0, cS 1, cS 2, cS 3, cQ 0, cQ 1, cQ 2⟩) ((go_at_call 26; ((with_reducible refine (F_f _).mono ?_); rintro E wk ⟨rfl, hb⟩; have hS' := hS.drew.below hb hS.lt; have hQ' := hQ.drew.below hb hQ.lt; have hw' := bt hw.drew hb; clear cS cQ hb; have cS := hS'.cell; have cQ := hQ'.cell)))) | fail
            all_goals (go_wp2_with fail; go_meet; exact ⟨rfl, hS', hQ', hw'⟩)
      case rest =>
        clear hS hQ hw cS cQ lS lQ
        obtain ⟨rfl, hS, hQ, hw⟩ := hcut
        have cS := hS.cell
        have cQ := hQ.cell
        have lS := hS.lt
        have lQ := hQ.lt
        by_cases hX0 : X = 0
        · have x1 : (X == 0) = true := by simpa using hX0
          clear eX eM bX hX hX0 v
          go_wp2_with fail
          all_goals (go_ret; exact ⟨rfl, hw⟩)
        · have x1 : (X == 0) = false := by simpa using hX0
          by_cases hX3 : 300 < X
          · have x2 : decide ((300 : Int) < X) = true := by simpa using hX3
            clear eX eM bX hX hX0 hX3 v
            go_wp2_with fail
            all_goals (go_ret; exact ⟨rfl, hw⟩)
          · have x2 : decide ((300 : Int) < X) = false := by simpa using hX3
            by_cases hm15 : 9999 < m + 15
            · have x3 : decide ((9999 : Int) < m + 15) = true := by simpa using hm15
              clear eX eM bX hX hX0 hX3 v
              go_wp2_with fail
              all_goals (go_ret; exact ⟨rfl, hw⟩)
            · have x3 : decide ((9999 : Int) < m + 15) = false := by simpa using hm15
              have eP := pay_due (show 0 < dueV a b c d e f g m by omega) (by omega)
              have eA := ml_after (show 0 < dueV a b c d e f g m by omega)
              rw [eX] at eP eA
              have eA2 := eA.2 (by omega)
              have eA1 := eA.1
              have P_i : ∀ w, Calls Tryd.prog 20 #[.agg #[.int .i64 a, .int .i64 b, .int .i64 c, .int .i64 d], .agg #[.int .i64 e, .int .i64 f, .int .i64 g], .int .i64 m, .int .i64 X] w fun E w' => E = .returned (.tuple #[.agg #[.int .i64 e, .int .i64 (f + X), .int .i64 m], .int .i64 0, .bool true]) ∧ Below w.heap.size w w' := fun w => by have := PayStay_i a b c d e f g m X w; rw [eP] at this; exact this
              have hf : f + X ≤ 9999 := by have := sv_bd (due_paid (show 0 < dueV a b c d e f g m by omega) (by omega) (Int.le_refl _)).1; rw [eX] at this; omega
              have L_1 : ∀ w, Calls Tryd.prog 24 #[.agg #[.int .i64 a, .int .i64 b, .int .i64 c, .int .i64 d], .agg #[.int .i64 e, .int .i64 (f + X), .int .i64 m], .int .i64 m] w fun E w' => E = .returned (.bool true) ∧ Below w.heap.size w w' := fun w => by have := MayLeave_i a b c d e (f + X) m m w; rw [eA1] at this; exact this
              have L_2 : ∀ w, Calls Tryd.prog 24 #[.agg #[.int .i64 a, .int .i64 b, .int .i64 c, .int .i64 d], .agg #[.int .i64 e, .int .i64 (f + X), .int .i64 m], .int .i64 (m + 15)] w fun E w' => E = .returned (.bool true) ∧ Below w.heap.size w w' := fun w => by have := MayLeave_i a b c d e (f + X) m (m + 15) w; rw [eA2] at this; exact this
              clear eX eM bX eP eA eA1 eA2 hX hX0 hX3 hm15 v
              go_upto_region 15 with (go_at_call 20; ((with_reducible refine (P_i _).mono ?_); rintro E wk ⟨rfl, hb⟩; replace hS := hS.below hb hS.lt; replace hQ := hQ.below hb hQ.lt; clear cS cQ; have cS := hS.cell; have cQ := hQ.cell; have lS := hS.lt; have lQ := hQ.lt; replace hw := bt hw hb; clear hb))
              have hM := Blk.new wk 26 #[.int .i64 e, .int .i64 (f + X), .int .i64 m]
              replace hS := hS.alloc (.cells #[.int .i64 e, .int .i64 (f + X), .int .i64 m] 26)
              replace hQ := hQ.alloc (.cells #[.int .i64 e, .int .i64 (f + X), .int .i64 m] 26)
              replace hw := hw.alloc hw.size (.cells #[.int .i64 e, .int .i64 (f + X), .int .i64 m] 26)
              generalize wk.alloc (.cells #[.int .i64 e, .int .i64 (f + X), .int .i64 m] 26) = W at *
              generalize wk.heap.size = q at *
              clear cS cQ
              have cS := hS.cell
              have cQ := hQ.cell
              have cM := hM.cell
              go_wp2_with (first | (go_at_call 24; ((with_reducible refine (L_1 _).mono ?_); rintro E wk ⟨rfl, hb⟩; replace hM := hM.below hb hM.lt; clear cM; have cM := hM.cell; replace hS := hS.below hb hS.lt; replace hQ := hQ.below hb hQ.lt; clear cS cQ; have cS := hS.cell; have cQ := hQ.cell; have lS := hS.lt; have lQ := hQ.lt; replace hw := bt hw hb; clear hb)) | (go_at_call 24; ((with_reducible refine (L_2 _).mono ?_); rintro E wk ⟨rfl, hb⟩; replace hM := hM.below hb hM.lt; clear cM; have cM := hM.cell; replace hS := hS.below hb hS.lt; replace hQ := hQ.below hb hQ.lt; clear cS cQ; have cS := hS.cell; have cQ := hQ.cell; have lS := hS.lt; have lQ := hQ.lt; replace hw := bt hw hb; clear hb)))
              all_goals (go_ret; exact ⟨rfl, hw⟩)
end Go.Proofs.YtnagghnmlcnbnaaDoor
