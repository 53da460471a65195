/- The walk of laws.FnTightHours. No condition. -/
import Derived.Test.YtoombdhchikbmaaDoorDFed
import Derived.Test.YtoombdhchikbmaaDoorPChg
import Derived.Test.YtoombdhchikbmaaDoorChg9
import Derived.Test.YtoombdhchikbmaaDoorAliveL
import Derived.Deep.RegionLaw
namespace Go.Proofs.YtoombdhchikbmaaDoor
open Go.RowKit
set_option linter.unusedVariables false
set_option maxRecDepth 100000 in
set_option maxHeartbeats 4000000 in
theorem FnTightHours_walk (w : World) (A : Option Addr) (n cap : Nat) (zs : List Int) (h : Nums .u8 w A n cap zs) :
    Calls Tryd.prog 8 #[.slice A n cap] w fun e w' => e = .returned (.bool true) ∧ Below w.heap.size w w' := by
  go_enter Tryd.func8, Tryd.ntmps8
  by_cases hn : 1048576 < n
  · have hnb : decide (1048576 < n) = true := by simpa using hn
    clear h
    go_wp2
    go_ret
    exact ⟨rfl, by (repeat (first | exact Below.refl _ _ | assumption | refine Below.alloc ?_ (by first | omega | (simp; done) | (simp; omega)) _ | refine Below.drew ?_ | refine bdN ?_ _ | refine Below.setCell ?_ (by first | omega | (simp; done) | (simp; omega)) _))⟩
  · have hnb : decide (1048576 < n) = false := by simpa using hn
    go_upto_region 4 with (go_at_call 29; refine (drawTightHours_ok A n cap zs _ h (by omega)).mono ?_; rintro E w1 ⟨G, k, c, qs, M, m, d, ys, rfl, hA, hC, k9, kc, cm, m7, md, dm, hq, hy, sa, hw⟩; clear h)
    clear hn hnb hq hy
    have hkl := hA.1
    obtain ⟨L, hL⟩ : ∃ L, thV qs ys = L := ⟨_, rfl⟩
    have F_i : ∀ w, Books w G k qs → Ints w M m ys → Calls Tryd.prog 30 #[.slice G k c, .slice M m d] w fun E w' => E = .returned (.int .i64 L) ∧ Below w.heap.size w w' := fun w h h' => by have := TightHours_i G M k c d m qs ys w h h' (by omega) (by omega); rw [hL] at this; exact this
    have F_s : ∀ w, Books w G k qs → Ints w M m ys → Calls Tryd.prog 31 #[.slice G k c, .slice M m d] w fun E w' => E = .returned (.int .i64 L) ∧ Below w.heap.size w w' := fun w h h' => by have := TightHours_s G M k c d m qs ys w h h' (by omega) (by omega) sa; rw [hL] at this; exact this
    have HL := Lib.hid hL
    clear hL sa
    go_upto_if 23 with (first
      | (go_at_call 30; ((with_reducible refine (F_i _ hA hC).mono ?_); rintro E wk ⟨rfl, hb⟩; replace hA := hA.below hb; replace hC := hC.below hb; replace hw := bt hw hb; clear hb))
      | (go_at_call 31; ((with_reducible refine (F_s _ hA hC).mono ?_); rintro E wk ⟨rfl, hb⟩; replace hA := hA.below hb; replace hC := hC.below hb; replace hw := bt hw hb; clear hb)))
    clear F_i F_s
    obtain ⟨U, hU⟩ : ∃ U, muV qs ys = U := ⟨_, rfl⟩
    have M_i : ∀ w, Books w G k qs → Ints w M m ys → Calls Tryd.prog 32 #[.slice G k c, .slice M m d] w fun E w' => E = .returned (.int .i64 U) ∧ Below w.heap.size w w' := fun w h h' => by have := MostUnits_i G M k c d m qs ys w h h' (by omega) (by omega); rw [hU] at this; exact this
    by_cases hl : L < 0
    · have e := th_no (qs := qs) (cs := ys) (by rw [HL.out]; exact hl)
      rw [HL.out, hU] at e
      obtain ⟨rfl, rfl⟩ := e
      clear HL hU
      go_wp2_with (first
        | (go_at_call 32; ((with_reducible refine (M_i _ hA hC).mono ?_); rintro E wk ⟨rfl, hb⟩; replace hA := hA.below hb; replace hC := hC.below hb; replace hw := bt hw hb; clear hb))
        | (go_at_call 20; ((with_reducible refine (alive_ok _).mono ?_); rintro E wk ⟨rfl, hb⟩; replace hw := bt hw hb; clear hb)))
      go_ret
      exact ⟨rfl, hw⟩
    · have hlb : decide (L < 0) = false := by simpa using hl
      obtain ⟨v1, v2, ht⟩ := th_at (qs := qs) (cs := ys) (by rw [HL.out]; omega)
      obtain ⟨P, pl, ps, p6, pa⟩ := mp_good v1 v2
      have hT := tgS_spec (usL qs) (rssL qs) ys
      have hti := mp_tight v1 v2
      rw [HL.out] at ht
      obtain ⟨s, hs⟩ : ∃ s, tgS (usL qs) (rssL qs) ys = s := ⟨_, rfl⟩
      rw [hs] at ht hT hti
      subst ht
      have hm6 : m = 6 := by rw [← hC.1]; exact (fv_at v2).1
      subst hm6
      have hmu := muV_nn v1 v2
      rw [hmu.1] at hU
      have hcut : Hid (cutV (usL qs) (rssL qs) ys s = U) := by show _ = _; rw [hT.2.1]; exact hU
      have s64 := hT.1
      have hbd := (fv_at v2).2
      have K_i : ∀ w, Books w G k qs → Ints w M 6 ys → Calls Tryd.prog 34 #[.slice G k c, .slice M 6 d, .int .i64 s] w fun E w' => E = .returned (.int .i64 U) ∧ Below w.heap.size w w' := fun w h h' => by have := CutUnits_i G M k c d 6 qs ys s w h h' (by omega) (by omega) v1 v2 s64; rw [hcut.out] at this; exact this
      have P_i : ∀ w, Books w G k qs → Ints w M 6 ys → Calls Tryd.prog 27 #[.slice G k c, .slice M 6 d] w (MP w (mpV qs ys)) := fun w h h' => MostPlan_i G M k c d 6 qs ys w h h' (by omega) (by omega)
      rw [hkl] at hti pl
      clear P p6 pa hT hs hmu hU HL v1 v2 hcut
      go_upto_region 10 with (go_at_call 27; ((with_reducible refine (P_i _ hA hC).mono ?_); rintro E wk ⟨Q, rfl, hQ, hx, hb⟩; replace hA := hA.below hb; replace hC := hC.below hb; replace hw := bt hw hb; clear hb hx P_i))
      obtain ⟨p, hp⟩ : ∃ p, mpV qs ys = p := ⟨_, rfl⟩
      rw [hp] at hQ ps hti pl
      rw [pl] at hQ
      have HTI := Lib.hid hti
      have HPS := Lib.hid ps
      clear hp hti ps pl
      obtain ⟨gb, go, rfl⟩ := hC.addr (by omega)
      go_wp2
      go_loopw [7] (fun i wr => ∃ j : Nat, j ≤ 6 ∧ i = .int .i64 j ∧ Books wr G k qs ∧ Ints wr (some ⟨gb, go, none⟩) 6 ys ∧ Tabs wr Q k p ∧ Below w.heap.size w wr) (fun i _ => 6 - (intOf i).toNat)
      case atStart => exact ⟨0, by omega, rfl, hA, hC, hQ, hw⟩
      case round =>
        clear hA hC hQ hw
        obtain ⟨j, hj, rfl, hA, hC, hQ, hw⟩ := hrel
        by_cases hlt : j < 6
        · have hD := (hC.cellx j hlt).1
          have an := test_shr s j
          have i1 : (0 : Int) ≤ (j : Int) := by omega
          have i2 : (j : Int) < (6 : Int) := by omega
          have PL := fun w hT => PlanLoad_i Q k k p j w hT (by omega) HPS.out
          have tj := HTI.out j hlt
          obtain ⟨z, hz⟩ : ∃ z, ys.getD j 0 = z := ⟨_, rfl⟩
          rw [hz] at hD tj
          have HZ := Lib.hid hz
          clear hz
          cases hbit : s.testBit j
          · rw [hbit] at an
            obtain ⟨an1, an2, an3, an4⟩ := an
            clear tj hbit PL
            go_upto_region 13 with fail
            go_quiet (fail)
            go_wp2
            go_roundw
            case rel => exact ⟨j + 1, hlt, by go_num, hA.below (bdN (Below.refl _ _) _), hC.below (bdN (Below.refl _ _) _), hQ.below (bdN (Below.refl _ _) _), bdN hw _⟩
            case measure => simp [intOf]; omega
          · rw [hbit] at an
            obtain ⟨an1, an2, an3, an4⟩ := an
            rw [tj hbit] at PL
            clear tj hbit
            generalize wr = W at *
            go_upto_region 13 with fail
            have HA := Lib.hid hA
            have HC := Lib.hid hC
            have HQ := Lib.hid hQ
            have HW := Lib.hid hw
            have hsz := hw.size
            have hg := (hC.cellx j hlt).2
            clear hA hC hQ hw
            go_region_held3 (fun w' => Below (W.heap.size) (W) w' ∧ ∀ k o, k < W.heap.size → w'.cell? ⟨k, o, none⟩ = World.cell? (W) ⟨k, o, none⟩) (first | assumption | exact kp_start | (refine kp_step ?_ hb ?_; assumption; (first | omega | (simp; done) | (simp; omega))) | (refine kp_drew ?_; assumption) | (refine kp_drew (kp_of hb ?_); (first | omega | (simp; done) | (simp; omega)))) (first | (go_at_call 33; (refine (PL _ (HQ.out.below (by (refine kp_end (by assumption) ?_ (by first | omega | (simp; done) | (simp; omega)); (repeat (first | exact Below.refl _ _ | assumption | refine Below.alloc ?_ (by first | omega | (simp; done) | (simp; omega)) _ | refine Below.drew ?_ | refine bdN ?_ _ | refine Below.setCell ?_ (by first | omega | (simp; done) | (simp; omega)) _)))))).mono ?_); rintro e w' ⟨rfl, hb⟩))
            all_goals
              go_wp2_with fail
              go_roundw
              case rel => exact ⟨j + 1, hlt, by go_num, HA.out.below (by (refine kp_end (by assumption) ?_ (by first | omega | (simp; done) | (simp; omega)); (repeat (first | exact Below.refl _ _ | assumption | refine Below.alloc ?_ (by first | omega | (simp; done) | (simp; omega)) _ | refine Below.drew ?_ | refine bdN ?_ _ | refine Below.setCell ?_ (by first | omega | (simp; done) | (simp; omega)) _)))), HC.out.below (by (refine kp_end (by assumption) ?_ (by first | omega | (simp; done) | (simp; omega)); (repeat (first | exact Below.refl _ _ | assumption | refine Below.alloc ?_ (by first | omega | (simp; done) | (simp; omega)) _ | refine Below.drew ?_ | refine bdN ?_ _ | refine Below.setCell ?_ (by first | omega | (simp; done) | (simp; omega)) _)))), HQ.out.below (by (refine kp_end (by assumption) ?_ (by first | omega | (simp; done) | (simp; omega)); (repeat (first | exact Below.refl _ _ | assumption | refine Below.alloc ?_ (by first | omega | (simp; done) | (simp; omega)) _ | refine Below.drew ?_ | refine bdN ?_ _ | refine Below.setCell ?_ (by first | omega | (simp; done) | (simp; omega)) _)))), bt HW.out (by (refine kp_end (by assumption) ?_ (by first | omega | (simp; done) | (simp; omega)); (repeat (first | exact Below.refl _ _ | assumption | refine Below.alloc ?_ (by first | omega | (simp; done) | (simp; omega)) _ | refine Below.drew ?_ | refine bdN ?_ _ | refine Below.setCell ?_ (by first | omega | (simp; done) | (simp; omega)) _))))⟩
              case measure => simp [intOf]; omega
        · obtain rfl : j = 6 := by omega
          go_wp2_with (first
            | (go_at_call 34; ((with_reducible refine (K_i _ hA hC).mono ?_); rintro E wk ⟨rfl, hb⟩; replace hA := hA.below hb; replace hC := hC.below hb; replace hw := bt hw hb; clear hb))
            | (go_at_call 32; ((with_reducible refine (M_i _ hA hC).mono ?_); rintro E wk ⟨rfl, hb⟩; replace hA := hA.below hb; replace hC := hC.below hb; replace hw := bt hw hb; clear hb)))
          go_ret
          exact ⟨ret_bool (by simp), hw⟩
end Go.Proofs.YtoombdhchikbmaaDoor
