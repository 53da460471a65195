/- The walk of laws.FnGreedySafe. No condition. -/
import Derived.Test.YtjijaejlcbailaaDoorLGreed
namespace Go.Proofs.YtjijaejlcbailaaDoor
open Go.RowKit
set_option linter.unusedVariables false
theorem gsV_one : gsV [1] = true := by decide
set_option maxRecDepth 100000 in
theorem drawGreedySafe_ok (A : Option Addr) (n cap : Nat) (zs : List Int) (w : World) (h : Nums .u8 w A n cap zs) (hn : n ≤ 1048576) :
    Calls Tryd.prog 41 #[.slice A n cap] w fun e w' => ∃ B k c qs, e = .returned (.slice B k c) ∧ DI w B k c qs w' := by
  go_enter Tryd.func41, Tryd.ntmps41
  go_wp2_with (first
    | (go_at_call 58; ((with_reducible refine (opN A n cap zs _ h hn).mono ?_); rintro e w1 ⟨rfl, hr, hb, hlt⟩; clear h))
    | (go_at_call 64; ((with_reducible refine (coins_ok w.heap.size 9 _ _ hr ?_ ?_ ?_).mono ?_); (omega); (omega); (omega); rintro e w2 ⟨B, k, c, qs, rfl, hB, k1, k2, k3, k4, hr2, hs⟩; have hw := hb.trans hs.1; have hB2 := Lib.hid (hB _ (Stp.refl _ _)); clear hr hs hb hB)))
  go_ret
  exact ⟨_, _, _, qs, rfl, hB2.out, by omega, k2, k3, k4, hw⟩
set_option maxRecDepth 100000 in
set_option maxHeartbeats 4000000 in
theorem FnGreedySafe_walk (w : World) (A : Option Addr) (n cap : Nat) (zs : List Int) (h : Nums .u8 w A n cap zs) :
    Calls Tryd.prog 10 #[.slice A n cap] w fun e w' => e = .returned (.bool true) ∧ Below w.heap.size w w' := by
  go_enter Tryd.func10, Tryd.ntmps10
  by_cases hn : 1048576 < n
  · have hnb : decide (1048576 < n) = true := by simpa using hn
    clear h
    go_wp2
    go_ret
    exact ⟨rfl, by (repeat (first | exact Below.refl _ _ | assumption | refine Below.alloc ?_ (by first | omega | (simp; done) | (simp; omega)) _ | refine Below.drew ?_ | refine bdN ?_ _ | refine Below.setCell ?_ (by first | omega | (simp; done) | (simp; omega)) _))⟩
  · have hnb : decide (1048576 < n) = false := by simpa using hn
    go_upto_region 4 with (go_at_call 41; refine (drawGreedySafe_ok A n cap zs _ h (by omega)).mono ?_; rintro E w1 ⟨G, k, c, qs, rfl, hC, k9, kc, cm, hq, hw⟩; clear h)
    clear hn hnb
    obtain ⟨V, hV⟩ : ∃ V, gsV qs = V := ⟨_, rfl⟩
    have F_i : ∀ w, Ints w G k qs → Calls Tryd.prog 42 #[.slice G k c] w fun E w' => E = .returned (.bool V) ∧ Below w.heap.size w w' := fun w h => by have := GreedySafe_i G k c qs w h (by omega); rw [hV] at this; exact this
    have F_s : ∀ w, Ints w G k qs → Calls Tryd.prog 43 #[.slice G k c] w fun E w' => E = .returned (.bool V) ∧ Below w.heap.size w w' := fun w h => by have := GreedySafe_s G k c qs w h (by omega); rw [hV] at this; exact this
    have HV := Lib.hid hV
    have hkl := hC.1
    clear hV
    go_upto_if 18 with (first
      | (go_at_call 42; ((with_reducible refine (F_i _ hC).mono ?_); rintro E wk ⟨rfl, hb⟩; replace hC := hC.below hb; replace hw := bt hw hb; clear hb))
      | (go_at_call 43; ((with_reducible refine (F_s _ hC).mono ?_); rintro E wk ⟨rfl, hb⟩; replace hC := hC.below hb; replace hw := bt hw hb; clear hb)))
    clear F_i F_s
    cases V
    · go_wp2
      go_loopw [5] (fun i wr => i = .int .i64 0 ∧ wr = wk) (fun i _ => 0)
      case atStart => exact ⟨rfl, rfl⟩
      case round =>
        obtain ⟨rfl, rfl⟩ := hrel
        rcases (show 1 < k ∨ k = 0 ∨ k = 1 by omega) with g | rfl | rfl
        · have d1 : decide (1 < (k : Int)) = true := by simp; omega
          go_wp2_with (go_at_call 18; ((with_reducible refine (alive_ok _).mono ?_); rintro E wk ⟨rfl, hb⟩; replace hw := bt hw hb; clear hb))
          all_goals (go_ret; exact ⟨rfl, hw⟩)
        · go_wp2_with (go_at_call 18; ((with_reducible refine (alive_ok _).mono ?_); rintro E wk ⟨rfl, hb⟩; replace hw := bt hw hb; clear hb))
          all_goals (go_ret; exact ⟨rfl, hw⟩)
        · obtain ⟨z, rfl⟩ : ∃ z, qs = [z] := by
            match qs, hkl with
            | [z], _ => exact ⟨z, rfl⟩
          have hz : z ≠ 1 := by rintro rfl; have := HV.out; rw [gsV_one] at this; cases this
          obtain ⟨b, off, rfl⟩ := hC.addr (by omega)
          have hD := (hC.cellx 0 (by omega)).1
          simp at hD
          have d1 : (z != 1) = true := by simpa using hz
          clear hz
          go_wp2_with (go_at_call 18; ((with_reducible refine (alive_ok _).mono ?_); rintro E wk ⟨rfl, hb⟩; replace hw := bt hw hb; clear hb))
          all_goals (go_ret; exact ⟨rfl, hw⟩)
    · have hcv : cv qs = true := by
        have := HV.out; unfold gsV at this; rw [decide_eq_true_iff] at this; exact this.1
      have hz1 : qs[0]?.getD 0 = 1 := by
        have := HV.out; unfold gsV at this; rw [decide_eq_true_iff] at this; exact this.2.1
      have HC := Lib.hid hcv
      have HZ := Lib.hid hz1
      clear hcv hz1
      go_wp2
      go_loopw [5] (fun i wr => ∃ j : Nat, j ≤ 310 ∧ i = .int .i64 j ∧ Ints wr G k qs ∧ Below w.heap.size w wr) (fun i _ => 310 - (intOf i).toNat)
      case atStart => exact ⟨0, by omega, rfl, hC, hw⟩
      case round =>
        clear hC hw
        obtain ⟨j, hj, rfl, hC, hw⟩ := hrel
        by_cases hle : j ≤ 300
        · have hleb : decide ((j : Int) ≤ 300) = true := by simp; omega
          have hok := greedy_one (a := (j : Int)) HC.out (by omega) (by omega) (by have := HZ.out; omega)
          have hsafe := safe_all HV.out j hle
          unfold gSum at hsafe
          rw [sumTo_suT, ← tot_suT] at hsafe
          obtain ⟨xs, hxs⟩ : ∃ xs, gV qs (j : Int) = xs := ⟨_, rfl⟩
          have hlen : xs.length ≤ 5 := by rw [← hxs]; exact gV_len5 qs j
          have hsm : ∀ i : Nat, -1000000 ≤ xs.getD i 0 ∧ xs.getD i 0 ≤ 1000000 := fun i => by rw [← hxs]; exact gV_sm qs j i
          have F_i : ∀ w, Ints w G k qs → Calls Tryd.prog 38 #[.slice G k c, .int .i64 j] w (ResI w xs true) := fun w h => by have := CoinsGreedy_i G k c qs j w h (by omega); rw [hxs, hok] at this; exact this
          rw [hxs] at hsafe
          obtain ⟨L, hLe⟩ : ∃ L, leastV qs (j : Int) = L := ⟨_, rfl⟩
          have L0 : ∀ w, Ints w G k qs → Calls Tryd.prog 34 #[.slice G k c, .int .i64 j] w fun E w' => E = .returned (.int .i64 L) ∧ Below w.heap.size w w' := fun w h => by have := CoinsLeast_i _ k c qs j w h (by omega); rw [hLe] at this; exact this
          rw [hLe] at hsafe
          have U0 : ∀ w A2 c2, Ints w A2 xs.length xs → Calls Tryd.prog 36 #[.slice A2 xs.length c2] w fun E w' => E = .returned (.int .i64 L) ∧ Below w.heap.size w w' := fun w A2 c2 h => by have := sumOf_any A2 xs.length c2 xs w h (by omega) hsm; rw [hsafe] at this; exact this
          clear hok hsafe hxs hLe hsm
          go_wp2_with (first
            | (go_at_call 38; ((with_reducible refine (F_i _ hC).mono ?_); rintro E wk ⟨A2, c2, rfl, hI2, _, hb⟩; replace hC := hC.below hb; replace hw := bt hw hb; clear hb F_i))
            | (go_at_call 36; ((with_reducible refine (U0 _ _ _ hI2).mono ?_); rintro E wk ⟨rfl, hb⟩; replace hC := hC.below hb; replace hI2 := hI2.below hb; replace hw := bt hw hb; clear hb U0))
            | (go_at_call 34; ((with_reducible refine (L0 _ hC).mono ?_); rintro E wk ⟨rfl, hb⟩; replace hC := hC.below hb; replace hw := bt hw hb; clear hb L0 hI2)))
          go_roundw
          case rel => exact ⟨j + 1 + j / 40, by omega, by first | (go_num; done) | (congr 1; omega), hC, hw⟩
          case measure => simp [intOf]; omega
        · have hleb : decide ((j : Int) ≤ 300) = false := by simp; omega
          go_wp2_with (go_at_call 18; ((with_reducible refine (alive_ok _).mono ?_); rintro E wk ⟨rfl, hb⟩; replace hw := bt hw hb; clear hb))
          all_goals (go_ret; exact ⟨rfl, hw⟩)
end Go.Proofs.YtjijaejlcbailaaDoor
