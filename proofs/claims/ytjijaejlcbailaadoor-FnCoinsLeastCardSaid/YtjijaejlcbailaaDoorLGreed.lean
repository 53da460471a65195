/- The walks of laws.FnCoinsGreedy and laws.FnGreedySafe. No condition. -/
import Derived.Test.YtjijaejlcbailaaDoorIS
import Derived.Test.YtjijaejlcbailaaDoorSumEq
import Derived.Test.YtjijaejlcbailaaDoorPGreed
import Derived.Test.YtjijaejlcbailaaDoorCSum
import Derived.Test.YtjijaejlcbailaaDoorQS
import Derived.Test.YtjijaejlcbailaaDoorAliveL
namespace Go.Proofs.YtjijaejlcbailaaDoor
open Go.RowKit
set_option linter.unusedVariables false
theorem eqL_self (xs : List Int) : eqL xs xs = true := by simp [eqL]
theorem tot_suT (xs : List Int) (k : Nat) : totL xs k = suT xs k := by
  induction k with
  | zero => rfl
  | succ k ih => unfold totL suT; rw [ih, List.getD_eq_getElem?_getD]
theorem gV_sm (qs : List Int) (a : Int) (i : Nat) : -1000000 ≤ (gV qs a).getD i 0 ∧ (gV qs a).getD i 0 ≤ 1000000 := by
  have := gV_at qs a i
  rw [List.getD_eq_getElem?_getD]; omega
set_option maxRecDepth 100000 in
set_option maxHeartbeats 4000000 in
theorem FnCoinsGreedy_walk (w : World) (A : Option Addr) (n cap : Nat) (zs : List Int) (h : Nums .u8 w A n cap zs) :
    Calls Tryd.prog 9 #[.slice A n cap] w fun e w' => e = .returned (.bool true) ∧ Below w.heap.size w w' := by
  go_enter Tryd.func9, Tryd.ntmps9
  by_cases hn : 1048576 < n
  · have hnb : decide (1048576 < n) = true := by simpa using hn
    clear h
    go_wp2
    go_ret
    exact ⟨rfl, by (repeat (first | exact Below.refl _ _ | assumption | refine Below.alloc ?_ (by first | omega | (simp; done) | (simp; omega)) _ | refine Below.drew ?_ | refine bdN ?_ _ | refine Below.setCell ?_ (by first | omega | (simp; done) | (simp; omega)) _))⟩
  · have hnb : decide (1048576 < n) = false := by simpa using hn
    go_upto_region 4 with (go_at_call 37; refine (drawCoinsGreedy_ok A n cap zs _ h (by omega)).mono ?_; rintro E w1 ⟨G, k, c, qs, m, rfl, hC, k9, kc, cm, hq, hm, hw⟩; clear h)
    clear hn hnb
    obtain ⟨xs, hxs⟩ : ∃ xs, gV qs m = xs := ⟨_, rfl⟩
    obtain ⟨V, hV⟩ : ∃ V, gOk qs m = V := ⟨_, rfl⟩
    have hlen : xs.length ≤ 5 := by rw [← hxs]; exact gV_len5 qs m
    have hsm : ∀ i : Nat, -1000000 ≤ xs.getD i 0 ∧ xs.getD i 0 ≤ 1000000 := fun i => by rw [← hxs]; exact gV_sm qs m i
    have F_i : ∀ w, Ints w G k qs → Calls Tryd.prog 38 #[.slice G k c, .int .i64 m] w (ResI w xs V) := fun w h => by have := CoinsGreedy_i G k c qs m w h (by omega); rw [hxs, hV] at this; exact this
    have F_s : ∀ w, Ints w G k qs → Calls Tryd.prog 39 #[.slice G k c, .int .i64 m] w (ResI w xs V) := fun w h => by have := CoinsGreedy_s G k c qs m w h (by omega); rw [hxs, hV] at this; exact this
    obtain ⟨CV, hCV⟩ : ∃ CV, cv qs = CV := ⟨_, rfl⟩
    have F_v : ∀ w, Ints w G k qs → Calls Tryd.prog 21 #[.slice G k c] w fun E w' => E = .returned (.bool CV) ∧ Below w.heap.size w w' := fun w h => by have := CoinsValid_s _ k c qs w h (by omega); rw [hCV] at this; exact this
    have HV := Lib.hid hV
    have HX := Lib.hid hxs
    have HCV := Lib.hid hCV
    have hkl := hC.1
    clear hV hxs hCV
    have E0 := eqL_self xs
    go_upto_if 37 with (first
      | (go_at_call 38; ((with_reducible refine (F_i _ hC).mono ?_); rintro E wk ⟨A2, c2, rfl, hI2, _, hb⟩; replace hC := hC.below hb; replace hw := bt hw hb; clear hb))
      | (go_at_call 39; ((with_reducible refine (F_s _ hC).mono ?_); rintro E wk ⟨A3, c3, rfl, hI3, _, hb⟩; replace hC := hC.below hb; replace hI2 := hI2.below hb; replace hw := bt hw hb; clear hb))
      | (go_at_call 40; ((with_reducible refine (sameInts_any _ _ _ _ _ _ xs xs _ hI2 hI3 ?_).mono ?_); (omega); rw [E0]; rintro E wk ⟨rfl, hb⟩; replace hC := hC.below hb; replace hI2 := hI2.below hb; replace hw := bt hw hb; clear hb hI3)))
    clear F_i F_s E0
    by_cases hval : CV = true ∧ 0 ≤ m ∧ m ≤ 300
    · obtain ⟨rfl, hm0, hm3⟩ := hval
      have d1 : decide (m < 0) = false := by simpa using hm0
      have d2 : decide (300 < m) = false := by simpa using hm3
      have hv := cv_at HCV.out
      obtain ⟨b, off, rfl⟩ := hC.addr (by omega)
      have HVv := Lib.hid hv
      have hk1 : 1 ≤ k := by omega
      clear hv
      cases V
      · have hnil : xs = [] := by rw [← HX.out]; unfold gV; rw [if_neg (by rw [HV.out]; simp)]
        subst hnil
        have hz : 1 < qs.getD 0 0 := by
          refine Classical.byContradiction fun hg => ?_
          have := greedy_one HCV.out hm0 hm3 (by rw [List.getD_eq_getElem?_getD] at hg; omega)
          rw [HV.out] at this; cases this
        obtain ⟨z, hzz⟩ : ∃ z, qs.getD 0 0 = z := ⟨_, rfl⟩
        rw [hzz] at hz
        have HZ := Lib.hid hzz
        clear hzz
        simp only [List.length_nil] at *
        go_wp2_with (go_at_call 21; ((with_reducible refine (F_v _ hC).mono ?_); rintro E wk ⟨rfl, hb⟩; have hD := ((hC.below hb).cellx 0 (by omega)).1; rw [HZ.out, Nat.add_zero] at hD; replace hw := bt hw hb; clear hb))
        all_goals (go_ret; exact ⟨rfl, hw⟩)
      · have hg := greedy_sum HV.out
        rw [HX.out] at hg
        have e1 := hg.1
        have hT := hg.2.1
        rw [← tot_suT] at hT
        have S0 : ∀ w, Ints w (some ⟨b, off, none⟩) k qs → Ints w A2 xs.length xs → Calls Tryd.prog 23 #[.slice (some ⟨b, off, none⟩) k c, .slice A2 xs.length c2] w fun E w' => E = .returned (.int .i64 m) ∧ Below w.heap.size w w' := fun w h h' => by have := CoinSum_i _ A2 k xs.length c c2 qs xs w h h' (by omega) (by omega); rw [e1] at this; exact this
        have tb := totL_bd hsm xs.length
        obtain ⟨T, hTe⟩ : ∃ T, totL xs xs.length = T := ⟨_, rfl⟩
        obtain ⟨L, hLe⟩ : ∃ L, leastV qs m = L := ⟨_, rfl⟩
        have U0 : ∀ w, Ints w A2 xs.length xs → Calls Tryd.prog 36 #[.slice A2 xs.length c2] w fun E w' => E = .returned (.int .i64 T) ∧ Below w.heap.size w w' := fun w h => by have := sumOf_any A2 xs.length c2 xs w h (by omega) hsm; rw [hTe] at this; exact this
        have L0 : ∀ w, Ints w (some ⟨b, off, none⟩) k qs → Calls Tryd.prog 34 #[.slice (some ⟨b, off, none⟩) k c, .int .i64 m] w fun E w' => E = .returned (.int .i64 L) ∧ Below w.heap.size w w' := fun w h => by have := CoinsLeast_i _ k c qs m w h (by omega); rw [hLe] at this; exact this
        rw [hTe, hLe] at hT
        have d3 : decide (L ≤ T) = true := by simpa using hT
        clear hg e1 hTe hLe tb hsm
        go_wp2_with (first
          | (go_at_call 21; ((with_reducible refine (F_v _ hC).mono ?_); rintro E wk ⟨rfl, hb⟩; replace hC := hC.below hb; replace hI2 := hI2.below hb; replace hw := bt hw hb; clear hb F_v))
          | (go_at_call 23; ((with_reducible refine (S0 _ hC hI2).mono ?_); rintro E wk ⟨rfl, hb⟩; replace hC := hC.below hb; replace hI2 := hI2.below hb; replace hw := bt hw hb; clear hb S0))
          | (go_at_call 36; ((with_reducible refine (U0 _ hI2).mono ?_); rintro E wk ⟨rfl, hb⟩; replace hC := hC.below hb; replace hI2 := hI2.below hb; replace hw := bt hw hb; clear hb U0))
          | (go_at_call 34; ((with_reducible refine (L0 _ hC).mono ?_); rintro E wk ⟨rfl, hb⟩; replace hC := hC.below hb; replace hI2 := hI2.below hb; replace hw := bt hw hb; clear hb L0)))
        all_goals (go_ret; exact ⟨rfl, hw⟩)
    · have hno := gV_no (zs := qs) (a := m) (by rw [HCV.out]; exact hval)
      rw [HX.out, HV.out] at hno
      obtain ⟨rfl, rfl⟩ := hno
      simp only [List.length_nil] at *
      rcases (show CV = false ∨ (CV = true ∧ m < 0) ∨ (CV = true ∧ 0 ≤ m ∧ 300 < m) by cases CV <;> simp at hval ⊢ <;> omega) with rfl | ⟨rfl, g⟩ | ⟨rfl, g1, g2⟩
      all_goals clear hval
      · go_wp2_with (first
          | (go_at_call 21; ((with_reducible refine (F_v _ hC).mono ?_); rintro E wk ⟨rfl, hb⟩; replace hw := bt hw hb; clear hb F_v))
          | (go_at_call 18; ((with_reducible refine (alive_ok _).mono ?_); rintro E wk ⟨rfl, hb⟩; replace hw := bt hw hb; clear hb)))
        all_goals (go_ret; exact ⟨rfl, hw⟩)
      · have d1 : decide (m < 0) = true := by simpa using g
        go_wp2_with (first
          | (go_at_call 21; ((with_reducible refine (F_v _ hC).mono ?_); rintro E wk ⟨rfl, hb⟩; replace hw := bt hw hb; clear hb F_v))
          | (go_at_call 18; ((with_reducible refine (alive_ok _).mono ?_); rintro E wk ⟨rfl, hb⟩; replace hw := bt hw hb; clear hb)))
        all_goals (go_ret; exact ⟨rfl, hw⟩)
      · have d1 : decide (m < 0) = false := by simpa using g1
        have d2 : decide (300 < m) = true := by simpa using g2
        go_wp2_with (first
          | (go_at_call 21; ((with_reducible refine (F_v _ hC).mono ?_); rintro E wk ⟨rfl, hb⟩; replace hw := bt hw hb; clear hb F_v))
          | (go_at_call 18; ((with_reducible refine (alive_ok _).mono ?_); rintro E wk ⟨rfl, hb⟩; replace hw := bt hw hb; clear hb)))
        all_goals (go_ret; exact ⟨rfl, hw⟩)
end Go.Proofs.YtjijaejlcbailaaDoor
