/- The walk of laws.FnCheapTariff. No condition. -/
import Derived.Test.YtjijaejlcbailaaDoorDTars
import Derived.Test.YtjijaejlcbailaaDoorCheap
import Derived.Test.YtjijaejlcbailaaDoorAliveL
import Derived.Deep.RegionLaw
namespace Go.Proofs.YtjijaejlcbailaaDoor
open Go.RowKit
set_option linter.unusedVariables false
theorem ctTo_min (qs : List Quad) (m : Int) (k : Nat) (j : Nat) (hj : j < k) : feeQ (qs.getD (ctTo qs m k).toNat q0) m ≤ feeQ (qs.getD j q0) m ∧ ((j : Int) < ctTo qs m k → feeQ (qs.getD (ctTo qs m k).toNat q0) m < feeQ (qs.getD j q0) m) := by
  induction k with
  | zero => omega
  | succ k ih =>
    have hb := ctTo_bd qs m k
    unfold ctTo
    split
    · rename_i g
      have e : ((k : Int)).toNat = k := by omega
      rw [e]
      rcases Nat.lt_or_ge j k with q | q
      · have := ih q
        rcases g with g | g
        · omega
        · omega
      · have : j = k := by omega
        subst this
        omega
    · rename_i g
      rcases Nat.lt_or_ge j k with q | q
      · exact ih q
      · have : j = k := by omega
        subst this
        omega
theorem ctV_min {qs : List Quad} {m : Int} (h : 0 ≤ ctV qs m) : ∃ l : Nat, ctV qs m = l ∧ l < qs.length ∧ ∀ j, j < qs.length → feeQ (qs.getD l q0) m ≤ feeQ (qs.getD j q0) m ∧ (j < l → feeQ (qs.getD l q0) m < feeQ (qs.getD j q0) m) := by
  unfold ctV at h ⊢
  split at h
  · rename_i g
    rw [if_pos g]
    have b := ctTo_bd qs m qs.length
    refine ⟨(ctTo qs m qs.length).toNat, by omega, by omega, fun j hj => ?_⟩
    have := ctTo_min qs m qs.length j hj
    exact ⟨this.1, fun hl => this.2 (by omega)⟩
  · omega
theorem ctV_neg (qs : List Quad) (m : Int) (h : ctV qs m < 0) : ctV qs m = -1 := by
  have b := ctTo_bd qs m qs.length
  unfold ctV at h ⊢
  split at h
  · rename_i g; rw [if_pos g]; omega
  · rename_i g; rw [if_neg g]
set_option maxRecDepth 100000 in
set_option maxHeartbeats 4000000 in
theorem FnCheapTariff_walk (w : World) (A : Option Addr) (n cap : Nat) (zs : List Int) (h : Nums .u8 w A n cap zs) :
    Calls Tryd.prog 6 #[.slice A n cap] w fun e w' => e = .returned (.bool true) ∧ Below w.heap.size w w' := by
  go_enter Tryd.func6, Tryd.ntmps6
  by_cases hn : 1048576 < n
  · have hnb : decide (1048576 < n) = true := by simpa using hn
    clear h
    go_wp2
    go_ret
    exact ⟨rfl, by (repeat (first | exact Below.refl _ _ | assumption | refine Below.alloc ?_ (by first | omega | (simp; done) | (simp; omega)) _ | refine Below.drew ?_ | refine bdN ?_ _ | refine Below.setCell ?_ (by first | omega | (simp; done) | (simp; omega)) _))⟩
  · have hnb : decide (1048576 < n) = false := by simpa using hn
    go_upto_region 4 with (go_at_call 25; refine (drawCheapTariff_ok A n cap zs _ h (by omega)).mono ?_; rintro E w1 ⟨G, k, c, qs, m, rfl, hA, k9, kc, cm, hw⟩; clear h)
    clear hn hnb
    have hkl := hA.1
    obtain ⟨L, hL⟩ : ∃ L, ctV qs m = L := ⟨_, rfl⟩
    have F_i : ∀ w, Books w G k qs → Calls Tryd.prog 26 #[.slice G k c, .int .i64 m] w fun E w' => E = .returned (.int .i64 L) ∧ Below w.heap.size w w' := fun w h => by have := CheapTariff_i G k c qs m w h (by omega); rw [hL] at this; exact this
    have F_s : ∀ w, Books w G k qs → Calls Tryd.prog 27 #[.slice G k c, .int .i64 m] w fun E w' => E = .returned (.int .i64 L) ∧ Below w.heap.size w w' := fun w h => by have := CheapTariff_s G k c qs m w h (by omega); rw [hL] at this; exact this
    have HL := Lib.hid hL
    clear hL
    go_upto_if 23 with (first
      | (go_at_call 26; ((with_reducible refine (F_i _ hA).mono ?_); rintro E wk ⟨rfl, hb⟩; replace hA := hA.below hb; replace hw := bt hw hb; clear hb))
      | (go_at_call 27; ((with_reducible refine (F_s _ hA).mono ?_); rintro E wk ⟨rfl, hb⟩; replace hA := hA.below hb; replace hw := bt hw hb; clear hb)))
    clear F_i F_s
    by_cases hl : L < 0
    · have e := ctV_neg qs m (by rw [HL.out]; exact hl)
      rw [HL.out] at e
      subst e
      clear HL
      go_wp2_with (go_at_call 18; ((with_reducible refine (alive_ok _).mono ?_); rintro E wk ⟨rfl, hb⟩; replace hw := bt hw hb; clear hb))
      go_ret
      exact ⟨rfl, hw⟩
    · have hlb : decide (L < 0) = false := by simpa using hl
      obtain ⟨l, e, hlk, hmin⟩ := ctV_min (qs := qs) (m := m) (by rw [HL.out]; omega)
      rw [HL.out] at e
      subst e
      rw [hkl] at hlk hmin
      have HM := Lib.hid hmin
      obtain ⟨nb, no, rfl, hnl, _⟩ := hA.2 (by omega)
      clear HL hmin hnl
      go_wp2
      go_loopw [6] (fun i wr => ∃ j : Nat, j ≤ k ∧ i = .int .i64 j ∧ Books wr (some ⟨nb, no, none⟩) k qs ∧ Below w.heap.size w wr) (fun i _ => k - (intOf i).toNat)
      case atStart => exact ⟨0, by omega, rfl, hA, hw⟩
      case round =>
        clear hA hw
        obtain ⟨j, hj, rfl, hA, hw⟩ := hrel
        by_cases hlt : j < k
        · obtain ⟨nb', no', e, hnl, hnc⟩ := hA.2 (by omega)
          simp only [Option.some.injEq, Addr.mk.injEq, and_true] at e
          obtain ⟨rfl, rfl⟩ := e
          have hm := HM.out j hlt
          obtain ⟨r0, r1, r2, r3⟩ := hnc j hlt
          obtain ⟨s0, s1, s2, s3⟩ := hnc l hlk
          have i1 : (0 : Int) ≤ (j : Int) := by omega
          have i2 : (j : Int) < (k : Int) := by omega
          have i3 : (0 : Int) ≤ (l : Int) := by omega
          have i4 : (l : Int) < (k : Int) := by omega
          by_cases hjl : j = l
          · subst hjl
            obtain ⟨q, hq⟩ : ∃ q, qs.getD j q0 = q := ⟨_, rfl⟩
            rw [hq] at r0 r1 r2 r3
            have K := fun w => FeeOf_iq q m w
            have fb := feeQ_bd q m
            obtain ⟨F, hF⟩ : ∃ F, feeQ q m = F := ⟨_, rfl⟩
            rw [hF] at K fb
            obtain ⟨a, b, c', d⟩ := q
            have u1 : IntKind.i64.wrap (F - F) = 0 := by rw [Int.sub_self]; rfl
            have t1 : decide ((j : Int) < (j : Int)) = false := by simp
            clear hm hnc hq hF s0 s1 s2 s3
            go_upto_region 12 with fail
            generalize wr = W at *
            have HA := Lib.hid hA
            have HW := Lib.hid hw
            have hsz := hw.size
            clear hA hw
            go_region_held3 (fun w' => Below (W.heap.size) (W) w' ∧ ∀ k o, k < W.heap.size → w'.cell? ⟨k, o, none⟩ = World.cell? (W) ⟨k, o, none⟩) (first | assumption | exact kp_start | (refine kp_step ?_ hb ?_; assumption; (first | omega | (simp; done) | (simp; omega))) | (refine kp_drew ?_; assumption) | (refine kp_drew (kp_of hb ?_); (first | omega | (simp; done) | (simp; omega)))) (first | (go_at_call 28; (with_reducible refine (K _).mono ?_); rintro e w' ⟨rfl, hb⟩))
            all_goals
              go_wp2_with fail
              go_roundw
              case rel => exact ⟨j + 1, hlt, by go_num, HA.out.below (by (refine kp_end (by assumption) ?_ (by first | omega | (simp; done) | (simp; omega)); (repeat (first | exact Below.refl _ _ | assumption | refine Below.alloc ?_ (by first | omega | (simp; done) | (simp; omega)) _ | refine Below.drew ?_ | refine bdN ?_ _ | refine Below.setCell ?_ (by first | omega | (simp; done) | (simp; omega)) _)))), bt HW.out (by (refine kp_end (by assumption) ?_ (by first | omega | (simp; done) | (simp; omega)); (repeat (first | exact Below.refl _ _ | assumption | refine Below.alloc ?_ (by first | omega | (simp; done) | (simp; omega)) _ | refine Below.drew ?_ | refine bdN ?_ _ | refine Below.setCell ?_ (by first | omega | (simp; done) | (simp; omega)) _))))⟩
              case measure => simp [intOf]; omega
          · obtain ⟨q, hq⟩ : ∃ q, qs.getD j q0 = q := ⟨_, rfl⟩
            obtain ⟨p, hp⟩ : ∃ p, qs.getD l q0 = p := ⟨_, rfl⟩
            rw [hq] at r0 r1 r2 r3 hm
            rw [hp] at s0 s1 s2 s3 hm
            have K := fun w => FeeOf_iq q m w
            have K2 := fun w => FeeOf_iq p m w
            have fb := feeQ_bd q m
            have fb2 := feeQ_bd p m
            obtain ⟨F, hF⟩ : ∃ F, feeQ q m = F := ⟨_, rfl⟩
            rw [hF] at K fb hm
            obtain ⟨F2, hF2⟩ : ∃ F, feeQ p m = F := ⟨_, rfl⟩
            rw [hF2] at K2 fb2 hm
            obtain ⟨a, b, c', d⟩ := q
            obtain ⟨a2, b2, c2, d2⟩ := p
            have u1 : IntKind.i64.wrap (F - F2) = F - F2 := IntWalk.i64_in _ (by omega)
            have t0 : decide (F - F2 < 0) = false := by simp; omega
            have hne : ¬ l = j := fun h => hjl h.symm
            clear hnc hq hF hp hF2
            rcases Nat.lt_or_ge j l with hjl2 | hjl2
            · have t1 : decide ((j : Int) < (l : Int)) = true := by simp; omega
              have t2 : (F - F2 == 0) = false := by simp; omega
              clear hm
              go_upto_region 12 with fail
              generalize wr = W at *
              have HA := Lib.hid hA
              have HW := Lib.hid hw
              have hsz := hw.size
              clear hA hw
              go_region_held3 (fun w' => Below (W.heap.size) (W) w' ∧ ∀ k o, k < W.heap.size → w'.cell? ⟨k, o, none⟩ = World.cell? (W) ⟨k, o, none⟩) (first | assumption | exact kp_start | (refine kp_step ?_ hb ?_; assumption; (first | omega | (simp; done) | (simp; omega))) | (refine kp_drew ?_; assumption) | (refine kp_drew (kp_of hb ?_); (first | omega | (simp; done) | (simp; omega)))) (first | (go_at_call 28; (with_reducible refine (K _).mono ?_); rintro e w' ⟨rfl, hb⟩) | (go_at_call 28; (with_reducible refine (K2 _).mono ?_); rintro e w' ⟨rfl, hb⟩))
              all_goals
                go_wp2_with fail
                go_roundw
                case rel => exact ⟨j + 1, hlt, by go_num, HA.out.below (by (refine kp_end (by assumption) ?_ (by first | omega | (simp; done) | (simp; omega)); (repeat (first | exact Below.refl _ _ | assumption | refine Below.alloc ?_ (by first | omega | (simp; done) | (simp; omega)) _ | refine Below.drew ?_ | refine bdN ?_ _ | refine Below.setCell ?_ (by first | omega | (simp; done) | (simp; omega)) _)))), bt HW.out (by (refine kp_end (by assumption) ?_ (by first | omega | (simp; done) | (simp; omega)); (repeat (first | exact Below.refl _ _ | assumption | refine Below.alloc ?_ (by first | omega | (simp; done) | (simp; omega)) _ | refine Below.drew ?_ | refine bdN ?_ _ | refine Below.setCell ?_ (by first | omega | (simp; done) | (simp; omega)) _))))⟩
                case measure => simp [intOf]; omega
            · have t1 : decide ((j : Int) < (l : Int)) = false := by simp; omega
              clear hm
              go_upto_region 12 with fail
              generalize wr = W at *
              have HA := Lib.hid hA
              have HW := Lib.hid hw
              have hsz := hw.size
              clear hA hw
              go_region_held3 (fun w' => Below (W.heap.size) (W) w' ∧ ∀ k o, k < W.heap.size → w'.cell? ⟨k, o, none⟩ = World.cell? (W) ⟨k, o, none⟩) (first | assumption | exact kp_start | (refine kp_step ?_ hb ?_; assumption; (first | omega | (simp; done) | (simp; omega))) | (refine kp_drew ?_; assumption) | (refine kp_drew (kp_of hb ?_); (first | omega | (simp; done) | (simp; omega)))) (first | (go_at_call 28; (with_reducible refine (K _).mono ?_); rintro e w' ⟨rfl, hb⟩) | (go_at_call 28; (with_reducible refine (K2 _).mono ?_); rintro e w' ⟨rfl, hb⟩))
              all_goals
                go_wp2_with fail
                go_roundw
                case rel => exact ⟨j + 1, hlt, by go_num, HA.out.below (by (refine kp_end (by assumption) ?_ (by first | omega | (simp; done) | (simp; omega)); (repeat (first | exact Below.refl _ _ | assumption | refine Below.alloc ?_ (by first | omega | (simp; done) | (simp; omega)) _ | refine Below.drew ?_ | refine bdN ?_ _ | refine Below.setCell ?_ (by first | omega | (simp; done) | (simp; omega)) _)))), bt HW.out (by (refine kp_end (by assumption) ?_ (by first | omega | (simp; done) | (simp; omega)); (repeat (first | exact Below.refl _ _ | assumption | refine Below.alloc ?_ (by first | omega | (simp; done) | (simp; omega)) _ | refine Below.drew ?_ | refine bdN ?_ _ | refine Below.setCell ?_ (by first | omega | (simp; done) | (simp; omega)) _))))⟩
                case measure => simp [intOf]; omega
        · obtain rfl : j = k := by omega
          go_wp2
          go_ret
          exact ⟨rfl, hw⟩
end Go.Proofs.YtjijaejlcbailaaDoor
