/- The walk of laws.FnEnough. No condition. -/
import Derived.Test.YtoombdhchikbmaaDoorDFed
import Derived.Test.YtoombdhchikbmaaDoorPChg
import Derived.Test.YtoombdhchikbmaaDoorChg9
import Derived.Test.YtoombdhchikbmaaDoorAliveL
import Derived.Deep.RegionLaw
namespace Go.Proofs.YtoombdhchikbmaaDoor
open Go.RowKit
set_option linter.unusedVariables false
theorem Books.drop {w : World} {b off n k : Nat} {qs : List Quad} (h : Books w (some ⟨b, off, none⟩) n qs) (hk : k ≤ n) : Books w (some ⟨b, off + k * 4, none⟩) (n - k) (qs.drop k) := by
  refine ⟨by rw [List.length_drop, h.1], fun hn => ?_⟩
  obtain ⟨b', off', e, hlt, hc⟩ := h.2 (by omega)
  simp only [Option.some.injEq, Addr.mk.injEq, and_true] at e
  obtain ⟨rfl, rfl⟩ := e
  refine ⟨_, _, rfl, hlt, fun j hj => ?_⟩
  obtain ⟨h1, h2, h3, h4⟩ := hc (k + j) (by omega)
  have e : (qs.drop k).getD j q0 = qs.getD (k + j) q0 := by simp [List.getD_eq_getElem?_getD]
  rw [e, show off + k * 4 + j * 4 = off + (k + j) * 4 by omega]
  exact ⟨h1, h2, h3, h4⟩
theorem smD_all {qs : List Quad} (h : ∀ q ∈ qs, SmQ q) : SmD qs := by
  intro i
  rcases Nat.lt_or_ge i qs.length with g | g
  · have e : qs.getD i q0 = qs[i] := by rw [List.getD_eq_getElem?_getD, List.getElem?_eq_getElem g]; rfl
    rw [e]
    exact (h _ (List.getElem_mem g)).2.2.2
  · have e : qs.getD i q0 = q0 := by rw [List.getD_eq_getElem?_getD, List.getElem?_eq_none g]; rfl
    rw [e]; simp [q0]
theorem en_no {qs : List Quad} {cs : List Int} (h : ¬ (nsV qs = true ∧ fvV cs = true)) : enV qs cs = false := by
  unfold enV; rw [decide_eq_false_iff_not]; rintro ⟨g1, g2, _⟩; exact h ⟨g1, g2⟩
set_option maxRecDepth 100000 in
set_option maxHeartbeats 4000000 in
theorem FnEnough_walk (w : World) (A : Option Addr) (n cap : Nat) (zs : List Int) (h : Nums .u8 w A n cap zs) :
    Calls Tryd.prog 7 #[.slice A n cap] w fun e w' => e = .returned (.bool true) ∧ Below w.heap.size w w' := by
  go_enter Tryd.func7, Tryd.ntmps7
  by_cases hn : 1048576 < n
  · have hnb : decide (1048576 < n) = true := by simpa using hn
    clear h
    go_wp2
    go_ret
    exact ⟨rfl, by (repeat (first | exact Below.refl _ _ | assumption | refine Below.alloc ?_ (by first | omega | (simp; done) | (simp; omega)) _ | refine Below.drew ?_ | refine bdN ?_ _ | refine Below.setCell ?_ (by first | omega | (simp; done) | (simp; omega)) _))⟩
  · have hnb : decide (1048576 < n) = false := by simpa using hn
    go_upto_region 4 with (go_at_call 22; refine (drawEnough_ok A n cap zs _ h (by omega)).mono ?_; rintro E w1 ⟨G, k, c, qs, M, m, d, ys, rfl, hA, hC, k9, kc, cm, m7, md, dm, hq, hy, sa, hw⟩; clear h)
    have sd := smD_all hq
    clear hn hnb hq hy
    have hkl := hA.1
    obtain ⟨L, hL⟩ : ∃ L, enV qs ys = L := ⟨_, rfl⟩
    have F_i : ∀ w, Books w G k qs → Ints w M m ys → Calls Tryd.prog 23 #[.slice G k c, .slice M m d] w fun E w' => E = .returned (.bool L) ∧ Below w.heap.size w w' := fun w h h' => by have := Enough_i G M k c d m qs ys w h h' (by omega) (by omega); rw [hL] at this; exact this
    have F_s : ∀ w, Books w G k qs → Ints w M m ys → Calls Tryd.prog 24 #[.slice G k c, .slice M m d] w fun E w' => E = .returned (.bool L) ∧ Below w.heap.size w w' := fun w h h' => by have := Enough_s G M k c d m qs ys w h h' (by omega) (by omega) sa sd; rw [hL] at this; exact this
    have KN := fun w h => NeedsValid_s G k c qs w h (by omega) sa
    have KF := fun w h => FeedValid_s M m d ys w h (by omega)
    have HL := Lib.hid hL
    clear hL sa sd
    go_upto_if 24 with (first
      | (go_at_call 23; ((with_reducible refine (F_i _ hA hC).mono ?_); rintro E wk ⟨rfl, hb⟩; replace hA := hA.below hb; replace hC := hC.below hb; replace hw := bt hw hb; clear hb))
      | (go_at_call 24; ((with_reducible refine (F_s _ hA hC).mono ?_); rintro E wk ⟨rfl, hb⟩; replace hA := hA.below hb; replace hC := hC.below hb; replace hw := bt hw hb; clear hb)))
    clear F_i F_s
    by_cases v1 : nsV qs = true
    · by_cases v2 : fvV ys = true
      · obtain ⟨P, pl, ps, p6, pa⟩ := mp_good v1 v2
        have hge := gv_en v1 v2
        rw [HL.out] at hge
        have hm6 : m = 6 := by rw [← hC.1]; exact (fv_at v2).1
        subst hm6
        have n5 := (ns_at v1).1
        rw [hkl] at pl p6 hge n5
        have KN2 : ∀ w, Books w G k qs → Calls Tryd.prog 25 #[.slice G k c] w fun E w' => E = .returned (.bool true) ∧ Below w.heap.size w w' := fun w h => by have := KN w h; rw [v1] at this; exact this
        have KF2 : ∀ w, Ints w M 6 ys → Calls Tryd.prog 26 #[.slice M 6 d] w fun E w' => E = .returned (.bool true) ∧ Below w.heap.size w w' := fun w h => by have := KF w h; rw [v2] at this; exact this
        have P_i : ∀ w, Books w G k qs → Ints w M 6 ys → Calls Tryd.prog 27 #[.slice G k c, .slice M 6 d] w (MP w (mpV qs ys)) := fun w h h' => MostPlan_i G M k c d 6 qs ys w h h' (by omega) (by omega)
        have T_i : L = true → 0 < k → ∀ (B : Option Addr) (c' : Nat) w, Books w B (k - 1) (qs.drop 1) → Ints w M 6 ys → Calls Tryd.prog 23 #[.slice B (k - 1) c', .slice M 6 d] w fun E w' => E = .returned (.bool true) ∧ Below w.heap.size w w' := fun hl hk B c' w h h' => by
          have := Enough_i B M (k - 1) c' d 6 (qs.drop 1) ys w h h' (by omega) (by omega)
          rw [en_drop (by rw [HL.out]; exact hl) (by omega)] at this; exact this
        have HT := Lib.hid T_i
        have HU : Hid (∀ j, j < k → (usL qs).getD j 0 = (qs.getD j q0).d) := fun j hj => usL_at (by omega)
        clear P pa v1 v2 KN KF HL T_i
        go_upto_region 9 with (first
          | (go_at_call 25; ((with_reducible refine (KN2 _ hA).mono ?_); rintro E wk ⟨rfl, hb⟩; replace hA := hA.below hb; replace hC := hC.below hb; replace hw := bt hw hb; clear hb KN2))
          | (go_at_call 26; ((with_reducible refine (KF2 _ hC).mono ?_); rintro E wk ⟨rfl, hb⟩; replace hA := hA.below hb; replace hC := hC.below hb; replace hw := bt hw hb; clear hb KF2)))
        go_upto_region 10 with (go_at_call 27; ((with_reducible refine (P_i _ hA hC).mono ?_); rintro E wk ⟨Q, rfl, hQ, hx, hb⟩; replace hA := hA.below hb; replace hC := hC.below hb; replace hw := bt hw hb; clear hb hx P_i))
        obtain ⟨p, hp⟩ : ∃ p, mpV qs ys = p := ⟨_, rfl⟩
        rw [hp] at hQ ps pl hge p6
        rw [pl] at hQ
        obtain ⟨us, hus⟩ : ∃ us, usL qs = us := ⟨_, rfl⟩
        rw [hus] at hge HU
        have HPS := Lib.hid ps
        have HP6 := Lib.hid p6
        have HGE := Lib.hid hge
        clear hp ps pl p6 hge hus
        go_wp2
        go_loopw [7, 8] (fun v i wr => ∃ j : Nat, j ≤ k ∧ i = .int .i64 j ∧ v = .bool (gvV p us j) ∧ Books wr G k qs ∧ Ints wr M 6 ys ∧ Tabs wr Q k p ∧ Below w.heap.size w wr) (fun _ i _ => k - (intOf i).toNat)
        case atStart => exact ⟨0, by omega, rfl, by simp [gvV], hA, hC, hQ, hw⟩
        case round =>
          clear hA hC hQ hw
          obtain ⟨j, hj, rfl, rfl, hA, hC, hQ, hw⟩ := hrel
          by_cases hlt : j < k
          · have hnx := gvV_next p us j
            cases hgv : gvV p us j
            · rw [hgv] at hnx
              simp at hnx
              have HN := Lib.hid hnx
              clear hnx hgv
              go_upto_region 14 with fail
              go_quiet (fail)
              go_wp2
              go_roundw
              case rel => exact ⟨j + 1, hlt, by go_num, by rw [HN.out], hA.below (bdN (Below.refl _ _) _), hC.below (bdN (Below.refl _ _) _), hQ.below (bdN (Below.refl _ _) _), bdN hw _⟩
              case measure => simp [intOf]; omega
            · rw [hgv] at hnx
              rw [Bool.true_and, HU.out j hlt] at hnx
              obtain ⟨pb, po, rfl, hpl, hpc⟩ := hQ.2 (by omega)
              obtain ⟨nb, no, rfl, hnl, hnc⟩ := hA.2 (by omega)
              obtain ⟨Ak, ck, c1, c2, hR⟩ := hpc j hlt
              obtain ⟨r0, r1, r2, r3⟩ := hnc j hlt
              have l6 := HP6.out j hlt
              have sm := HPS.out j
              rw [l6] at c1 c2 hR
              obtain ⟨row, hrow⟩ : ∃ row, p.getD j [] = row := ⟨_, rfl⟩
              rw [hrow] at hR hnx sm
              obtain ⟨q, hqq⟩ : ∃ q, qs.getD j q0 = q := ⟨_, rfl⟩
              rw [hqq] at r0 r1 r2 r3 hnx
              have PU := fun w h => PlanUnits_i Ak 6 ck row w h (by omega) sm
              obtain ⟨X, hX⟩ : ∃ X, sumL row 6 = X := ⟨_, rfl⟩
              rw [hX] at PU hnx
              obtain ⟨D, hD⟩ : ∃ D, q.d = D := ⟨_, rfl⟩
              rw [hD] at r3 hnx
              have i1 : (0 : Int) ≤ (j : Int) := by omega
              have i2 : (j : Int) < (k : Int) := by omega
              have HN := Lib.hid hnx
              clear hnx hgv hX hD hqq hrow hpc hnc l6 sm r0 r1 r2
              go_upto_region 14 with fail
              generalize wr = W at *
              have HA := Lib.hid hA
              have HC := Lib.hid hC
              have HQ := Lib.hid hQ
              have HR := Lib.hid hR
              have HW := Lib.hid hw
              have hsz := hw.size
              clear hA hC hQ hw hR
              go_region_held3 (fun w' => Below (W.heap.size) (W) w' ∧ ∀ k o, k < W.heap.size → w'.cell? ⟨k, o, none⟩ = World.cell? (W) ⟨k, o, none⟩) (first | assumption | exact kp_start | (refine kp_step ?_ hb ?_; assumption; (first | omega | (simp; done) | (simp; omega))) | (refine kp_drew ?_; assumption) | (refine kp_drew (kp_of hb ?_); (first | omega | (simp; done) | (simp; omega)))) (first | (go_at_call 28; (refine (PU _ (HR.out.below (by (refine kp_end (by assumption) ?_ (by first | omega | (simp; done) | (simp; omega)); (repeat (first | exact Below.refl _ _ | assumption | refine Below.alloc ?_ (by first | omega | (simp; done) | (simp; omega)) _ | refine Below.drew ?_ | refine bdN ?_ _ | refine Below.setCell ?_ (by first | omega | (simp; done) | (simp; omega)) _)))))).mono ?_); rintro e w' ⟨rfl, hb⟩))
              all_goals
                go_wp2_with fail
                go_roundw
                case rel => exact ⟨j + 1, hlt, by go_num, by rw [HN.out], HA.out.below (by (refine kp_end (by assumption) ?_ (by first | omega | (simp; done) | (simp; omega)); (repeat (first | exact Below.refl _ _ | assumption | refine Below.alloc ?_ (by first | omega | (simp; done) | (simp; omega)) _ | refine Below.drew ?_ | refine bdN ?_ _ | refine Below.setCell ?_ (by first | omega | (simp; done) | (simp; omega)) _)))), HC.out.below (by (refine kp_end (by assumption) ?_ (by first | omega | (simp; done) | (simp; omega)); (repeat (first | exact Below.refl _ _ | assumption | refine Below.alloc ?_ (by first | omega | (simp; done) | (simp; omega)) _ | refine Below.drew ?_ | refine bdN ?_ _ | refine Below.setCell ?_ (by first | omega | (simp; done) | (simp; omega)) _)))), HQ.out.below (by (refine kp_end (by assumption) ?_ (by first | omega | (simp; done) | (simp; omega)); (repeat (first | exact Below.refl _ _ | assumption | refine Below.alloc ?_ (by first | omega | (simp; done) | (simp; omega)) _ | refine Below.drew ?_ | refine bdN ?_ _ | refine Below.setCell ?_ (by first | omega | (simp; done) | (simp; omega)) _)))), bt HW.out (by (refine kp_end (by assumption) ?_ (by first | omega | (simp; done) | (simp; omega)); (repeat (first | exact Below.refl _ _ | assumption | refine Below.alloc ?_ (by first | omega | (simp; done) | (simp; omega)) _ | refine Below.drew ?_ | refine bdN ?_ _ | refine Below.setCell ?_ (by first | omega | (simp; done) | (simp; omega)) _))))⟩
                case measure => simp [intOf]; omega
          · obtain rfl : j = k := by omega
            rw [HGE.out]
            cases L
            · go_wp2
              go_ret
              exact ⟨rfl, hw⟩
            · have hcase : j = 0 ∨ (j = 1 ∧ c = 1) ∨ (j = 1 ∧ 1 < c) ∨ j = 2 ∨ j = 3 ∨ j = 4 ∨ j = 5 := by omega
              clear n5 k9 HGE HP6 hj hlt hQ
              rcases hcase with rfl | ⟨rfl, rfl⟩ | ⟨rfl, hc⟩ | rfl | rfl | rfl | rfl
              · go_wp2
                go_ret
                exact ⟨rfl, hw⟩
              · obtain ⟨nb, no, rfl, hnl, hnc⟩ := hA.2 (by omega)
                have T_1 : ∀ w, Books w (some ⟨nb, no, none⟩) 1 qs → Ints w M 6 ys → Calls Tryd.prog 23 #[.slice (some ⟨nb, no, none⟩) 0 0, .slice M 6 d] w fun E w' => E = .returned (.bool true) ∧ Below w.heap.size w w' := fun w h h' => HT.out rfl (by omega) _ _ w ⟨by simp [h.1], fun h => absurd h (by omega)⟩ h'
                clear hnc HT
                go_wp2_with (go_at_call 23; (refine (T_1 _ hA hC).mono ?_); rintro E wk ⟨rfl, hb⟩; replace hw := bt hw hb; clear hb)
                go_ret
                exact ⟨rfl, hw⟩
              · obtain ⟨nb, no, rfl, hnl, hnc⟩ := hA.2 (by omega)
                have hc2 : ¬ c = 1 := by omega
                have T_1 : ∀ w, Books w (some ⟨nb, no, none⟩) 1 qs → Ints w M 6 ys → Calls Tryd.prog 23 #[.slice (some ⟨nb, no + 4, none⟩) 0 (c - 1), .slice M 6 d] w fun E w' => E = .returned (.bool true) ∧ Below w.heap.size w w' := fun w h h' => HT.out rfl (by omega) _ _ w (by have := h.drop (k := 1) (by omega); simpa using this) h'
                clear hnc HT
                go_wp2_with (go_at_call 23; (refine (T_1 _ hA hC).mono ?_); rintro E wk ⟨rfl, hb⟩; replace hw := bt hw hb; clear hb)
                go_ret
                exact ⟨rfl, hw⟩
              · obtain ⟨nb, no, rfl, hnl, hnc⟩ := hA.2 (by omega)
                have hc2 : ¬ c = 1 := by omega
                have T_1 : ∀ w, Books w (some ⟨nb, no, none⟩) 2 qs → Ints w M 6 ys → Calls Tryd.prog 23 #[.slice (some ⟨nb, no + 4, none⟩) 1 (c - 1), .slice M 6 d] w fun E w' => E = .returned (.bool true) ∧ Below w.heap.size w w' := fun w h h' => HT.out rfl (by omega) _ _ w (by have := h.drop (k := 1) (by omega); simpa using this) h'
                clear hnc HT
                go_wp2_with (go_at_call 23; (refine (T_1 _ hA hC).mono ?_); rintro E wk ⟨rfl, hb⟩; replace hw := bt hw hb; clear hb)
                go_ret
                exact ⟨rfl, hw⟩
              · obtain ⟨nb, no, rfl, hnl, hnc⟩ := hA.2 (by omega)
                have hc2 : ¬ c = 1 := by omega
                have T_1 : ∀ w, Books w (some ⟨nb, no, none⟩) 3 qs → Ints w M 6 ys → Calls Tryd.prog 23 #[.slice (some ⟨nb, no + 4, none⟩) 2 (c - 1), .slice M 6 d] w fun E w' => E = .returned (.bool true) ∧ Below w.heap.size w w' := fun w h h' => HT.out rfl (by omega) _ _ w (by have := h.drop (k := 1) (by omega); simpa using this) h'
                clear hnc HT
                go_wp2_with (go_at_call 23; (refine (T_1 _ hA hC).mono ?_); rintro E wk ⟨rfl, hb⟩; replace hw := bt hw hb; clear hb)
                go_ret
                exact ⟨rfl, hw⟩
              · obtain ⟨nb, no, rfl, hnl, hnc⟩ := hA.2 (by omega)
                have hc2 : ¬ c = 1 := by omega
                have T_1 : ∀ w, Books w (some ⟨nb, no, none⟩) 4 qs → Ints w M 6 ys → Calls Tryd.prog 23 #[.slice (some ⟨nb, no + 4, none⟩) 3 (c - 1), .slice M 6 d] w fun E w' => E = .returned (.bool true) ∧ Below w.heap.size w w' := fun w h h' => HT.out rfl (by omega) _ _ w (by have := h.drop (k := 1) (by omega); simpa using this) h'
                clear hnc HT
                go_wp2_with (go_at_call 23; (refine (T_1 _ hA hC).mono ?_); rintro E wk ⟨rfl, hb⟩; replace hw := bt hw hb; clear hb)
                go_ret
                exact ⟨rfl, hw⟩
              · obtain ⟨nb, no, rfl, hnl, hnc⟩ := hA.2 (by omega)
                have hc2 : ¬ c = 1 := by omega
                have T_1 : ∀ w, Books w (some ⟨nb, no, none⟩) 5 qs → Ints w M 6 ys → Calls Tryd.prog 23 #[.slice (some ⟨nb, no + 4, none⟩) 4 (c - 1), .slice M 6 d] w fun E w' => E = .returned (.bool true) ∧ Below w.heap.size w w' := fun w h h' => HT.out rfl (by omega) _ _ w (by have := h.drop (k := 1) (by omega); simpa using this) h'
                clear hnc HT
                go_wp2_with (go_at_call 23; (refine (T_1 _ hA hC).mono ?_); rintro E wk ⟨rfl, hb⟩; replace hw := bt hw hb; clear hb)
                go_ret
                exact ⟨rfl, hw⟩
      · have v2' : fvV ys = false := by simpa using v2
        have hE := en_no (qs := qs) (cs := ys) (fun g => v2 g.2)
        rw [HL.out] at hE
        subst hE
        have KN2 : ∀ w, Books w G k qs → Calls Tryd.prog 25 #[.slice G k c] w fun E w' => E = .returned (.bool true) ∧ Below w.heap.size w w' := fun w h => by have := KN w h; rw [v1] at this; exact this
        have KF2 : ∀ w, Ints w M m ys → Calls Tryd.prog 26 #[.slice M m d] w fun E w' => E = .returned (.bool false) ∧ Below w.heap.size w w' := fun w h => by have := KF w h; rw [v2'] at this; exact this
        clear v1 v2 v2' KN KF HL
        go_wp2_with (first
          | (go_at_call 25; ((with_reducible refine (KN2 _ hA).mono ?_); rintro E wk ⟨rfl, hb⟩; replace hA := hA.below hb; replace hC := hC.below hb; replace hw := bt hw hb; clear hb KN2))
          | (go_at_call 26; ((with_reducible refine (KF2 _ hC).mono ?_); rintro E wk ⟨rfl, hb⟩; replace hA := hA.below hb; replace hC := hC.below hb; replace hw := bt hw hb; clear hb KF2))
          | (go_at_call 20; ((with_reducible refine (alive_ok _).mono ?_); rintro E wk ⟨rfl, hb⟩; replace hw := bt hw hb; clear hb)))
        go_ret
        exact ⟨rfl, hw⟩
    · have v1' : nsV qs = false := by simpa using v1
      have hE := en_no (qs := qs) (cs := ys) (fun g => v1 g.1)
      rw [HL.out] at hE
      subst hE
      have KN2 : ∀ w, Books w G k qs → Calls Tryd.prog 25 #[.slice G k c] w fun E w' => E = .returned (.bool false) ∧ Below w.heap.size w w' := fun w h => by have := KN w h; rw [v1'] at this; exact this
      clear v1 v1' KN KF HL
      go_wp2_with (first
        | (go_at_call 25; ((with_reducible refine (KN2 _ hA).mono ?_); rintro E wk ⟨rfl, hb⟩; replace hA := hA.below hb; replace hC := hC.below hb; replace hw := bt hw hb; clear hb KN2))
        | (go_at_call 20; ((with_reducible refine (alive_ok _).mono ?_); rintro E wk ⟨rfl, hb⟩; replace hw := bt hw hb; clear hb)))
      go_ret
      exact ⟨rfl, hw⟩
end Go.Proofs.YtoombdhchikbmaaDoor
