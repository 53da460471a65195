/- The walk of laws.FnCoinsLeast. No condition. -/
import Derived.Test.YtjijaejlcbailaaDoorLGreed
import Derived.Test.YtjijaejlcbailaaDoorLCSum
namespace Go.Proofs.YtjijaejlcbailaaDoor
open Go.RowKit
set_option linter.unusedVariables false
theorem csV_least {zs ms : List Int} (h : 0 ≤ csV zs ms) (h3 : csV zs ms ≤ 300) : 0 ≤ leastV zs (csV zs ms) ∧ leastV zs (csV zs ms) ≤ totL ms ms.length := by
  obtain ⟨h1, h2, h4, h5⟩ := csV_yes h
  rw [h5] at h3 ⊢
  rw [tot_suT, h2]
  exact least_dot h1 (fun i hi => (h4 i hi).1) h3
theorem leastV_big (zs : List Int) (m : Int) : -1 ≤ leastV zs m ∧ leastV zs m ≤ 300 := by
  unfold leastV
  split
  · rename_i g
    have := tabTo_bd zs (cv_at g.1).2.2 m.toNat m.toNat
    omega
  · omega
theorem leastV_yes {zs : List Int} {m : Int} (h : 0 ≤ leastV zs m) : cv zs = true ∧ 0 ≤ m ∧ m ≤ 300 := by
  unfold leastV at h
  split at h
  · assumption
  · omega
set_option maxRecDepth 100000 in
set_option maxHeartbeats 4000000 in
theorem FnCoinsLeast_walk (w : World) (A : Option Addr) (n cap : Nat) (zs : List Int) (h : Nums .u8 w A n cap zs) (A' : Option Addr) (n' cap' : Nat) (zs' : List Int) (h' : Nums .u8 w A' n' cap' zs') :
    Calls Tryd.prog 8 #[.slice A n cap, .slice A' n' cap'] w fun e w' => e = .returned (.bool true) ∧ Below w.heap.size w w' := by
  go_enter Tryd.func8, Tryd.ntmps8
  by_cases hn : 1048576 < n
  · have hnb : decide (1048576 < n) = true := by simpa using hn
    clear h h'
    go_wp2
    go_ret
    exact ⟨rfl, by (repeat (first | exact Below.refl _ _ | assumption | refine Below.alloc ?_ (by first | omega | (simp; done) | (simp; omega)) _ | refine Below.drew ?_ | refine bdN ?_ _ | refine Below.setCell ?_ (by first | omega | (simp; done) | (simp; omega)) _))⟩
  · by_cases hn' : 1048576 < n'
    · have hnb : decide (1048576 < n) = false := by simpa using hn
      have hnb' : decide (1048576 < n') = true := by simpa using hn'
      clear h h'
      go_wp2
      go_ret
      exact ⟨rfl, by (repeat (first | exact Below.refl _ _ | assumption | refine Below.alloc ?_ (by first | omega | (simp; done) | (simp; omega)) _ | refine Below.drew ?_ | refine bdN ?_ _ | refine Below.setCell ?_ (by first | omega | (simp; done) | (simp; omega)) _))⟩
    · have hnb : decide (1048576 < n) = false := by simpa using hn
      have hnb' : decide (1048576 < n') = false := by simpa using hn'
      go_upto_region 4 with (go_at_call 33; refine (drawCoinsLeast_ok A n cap zs _ h (by omega)).mono ?_; rintro E w1 ⟨G, k, c, qs, m, rfl, hC, k9, kc, cm, hq, hm, hw⟩; replace h' := h'.kept hw; clear h)
      clear hn hnb hnb'
      obtain ⟨L, hL⟩ : ∃ L, leastV qs m = L := ⟨_, rfl⟩
      have F_i : ∀ w, Ints w G k qs → Calls Tryd.prog 34 #[.slice G k c, .int .i64 m] w fun E w' => E = .returned (.int .i64 L) ∧ Below w.heap.size w w' := fun w h => by have := CoinsLeast_i G k c qs m w h (by omega); rw [hL] at this; exact this
      have F_s : ∀ w, Ints w G k qs → Calls Tryd.prog 35 #[.slice G k c, .int .i64 m] w fun E w' => E = .returned (.int .i64 L) ∧ Below w.heap.size w w' := fun w h => by have := CoinsLeast_s G k c qs m w h (by omega); rw [hL] at this; exact this
      have Lb := leastV_big qs m
      rw [hL] at Lb
      have HL := Lib.hid hL
      have hkl := hC.1
      clear hL
      go_upto_if 33 with (first
        | (go_at_call 34; ((with_reducible refine (F_i _ hC).mono ?_); rintro E wk ⟨rfl, hb⟩; replace hC := hC.below hb; replace h' := h'.kept hb; replace hw := bt hw hb; clear hb))
        | (go_at_call 35; ((with_reducible refine (F_s _ hC).mono ?_); rintro E wk ⟨rfl, hb⟩; replace hC := hC.below hb; replace h' := h'.kept hb; replace hw := bt hw hb; clear hb)))
      clear F_i F_s
      go_upto_region 8 with (go_at_call 22; refine (drawCoinSum_ok A' n' cap' zs' _ h' (by omega)).mono ?_; rintro E w2 ⟨G2, k2, c2, ks, M, m2, d2, ms, rfl, hC2, hM, k29, m29, kc2, md, cm2, dm, hq2, hms, hb2⟩; replace hC := hC.below hb2; replace hw := bt hw hb2; clear h' hb2)
      clear hn'
      obtain ⟨S, hS⟩ : ∃ S, csV ks ms = S := ⟨_, rfl⟩
      have S_i : ∀ w, Ints w G2 k2 ks → Ints w M m2 ms → Calls Tryd.prog 23 #[.slice G2 k2 c2, .slice M m2 d2] w fun E w' => E = .returned (.int .i64 S) ∧ Below w.heap.size w w' := fun w h h' => by have := CoinSum_i G2 M k2 m2 c2 d2 ks ms w h h' (by omega) (by omega); rw [hS] at this; exact this
      obtain ⟨L2, hL2⟩ : ∃ L2, leastV ks S = L2 := ⟨_, rfl⟩
      obtain ⟨T, hT⟩ : ∃ T, totL ms m2 = T := ⟨_, rfl⟩
      have hsml : ∀ i : Nat, -1000000 ≤ ms.getD i 0 ∧ ms.getD i 0 ≤ 1000000 := fun i => by
        rw [List.getD_eq_getElem?_getD]
        rcases Nat.lt_or_ge i ms.length with g | g
        · rw [List.getElem?_eq_getElem g]; exact hms _ (List.getElem_mem g)
        · rw [List.getElem?_eq_none g]; simp
      have L_i : ∀ w, Ints w G2 k2 ks → Calls Tryd.prog 34 #[.slice G2 k2 c2, .int .i64 S] w fun E w' => E = .returned (.int .i64 L2) ∧ Below w.heap.size w w' := fun w h => by have := CoinsLeast_i G2 k2 c2 ks S w h (by omega); rw [hL2] at this; exact this
      have T_i : ∀ w, Ints w M m2 ms → Calls Tryd.prog 36 #[.slice M m2 d2] w fun E w' => E = .returned (.int .i64 T) ∧ Below w.heap.size w w' := fun w h => by have := sumOf_any M m2 d2 ms w h (by omega) hsml; rw [hT] at this; exact this
      have key : 0 ≤ S → S ≤ 300 → 0 ≤ L2 ∧ L2 ≤ T := fun a b => by
        have := csV_least (zs := ks) (ms := ms) (by omega) (by omega)
        rw [hS, hL2, hM.1, hT] at this; exact this
      have KEY := Lib.hid key
      clear key hS hL2 hT hsml hms hq2
      have hcase : (S < 0) ∨ (0 ≤ S ∧ 300 < S) ∨ (0 ≤ S ∧ S ≤ 300 ∧ 0 ≤ L2 ∧ L2 ≤ T) := by
        rcases (show S < 0 ∨ (0 ≤ S ∧ 300 < S) ∨ (0 ≤ S ∧ S ≤ 300) by omega) with g | g | g
        · exact .inl g
        · exact .inr (.inl g)
        · exact .inr (.inr ⟨g.1, g.2, KEY.out g.1 g.2⟩)
      clear KEY
      rcases hcase with g0 | ⟨g0, g1⟩ | ⟨g0, g1, g2, g3⟩
      all_goals
        go_upto_region 11 with (first
          | (go_at_call 23; ((with_reducible refine (S_i _ hC2 hM).mono ?_); rintro E wk ⟨rfl, hb⟩; replace hC := hC.below hb; replace hC2 := hC2.below hb; replace hM := hM.below hb; replace hw := bt hw hb; clear hb S_i))
          | (go_at_call 34; ((with_reducible refine (L_i _ hC2).mono ?_); rintro E wk ⟨rfl, hb⟩; replace hC := hC.below hb; replace hC2 := hC2.below hb; replace hM := hM.below hb; replace hw := bt hw hb; clear hb))
          | (go_at_call 36; ((with_reducible refine (T_i _ hM).mono ?_); rintro E wk ⟨rfl, hb⟩; replace hC := hC.below hb; replace hC2 := hC2.below hb; replace hM := hM.below hb; replace hw := bt hw hb; clear hb)))
        try clear S_i
        clear L_i T_i hC2 hM g0
        try clear g1
        try clear g2 g3
        by_cases hl0 : L < 0
        · obtain rfl : L = -1 := by omega
          clear HL hC hq
          go_wp2_with (go_at_call 18; ((with_reducible refine (alive_ok _).mono ?_); rintro E wk ⟨rfl, hb⟩; replace hw := bt hw hb; clear hb))
          all_goals (go_ret; exact ⟨rfl, hw⟩)
        · have hl0b : decide (L < 0) = false := by simpa using hl0
          have hy := leastV_yes (zs := qs) (m := m) (by rw [HL.out]; omega)
          have hv := cv_at hy.1
          have hm0 := hy.2.1
          have hm3 := hy.2.2
          obtain ⟨gb, go, rfl⟩ := hC.addr (by omega)
          have HY := Lib.hid hy
          have HV := Lib.hid hv
          have hLm := leastV_bd hy.1 m.toNat (by omega)
          rw [show ((m.toNat : Nat) : Int) = m by omega, HL.out] at hLm
          clear hy hv
          go_wp2
          go_loopw [11] (fun i wr => ∃ j : Nat, j ≤ k ∧ i = .int .i64 j ∧ Ints wr (some ⟨gb, go, none⟩) k qs ∧ Below w.heap.size w wr) (fun i _ => k - (intOf i).toNat)
          case atStart => exact ⟨0, by omega, rfl, hC, hw⟩
          case round =>
            clear hC hw
            obtain ⟨j, hj, rfl, hC, hw⟩ := hrel
            by_cases hlt : j < k
            · have hz := HV.out.2.2 j (by omega)
              have hD := (hC.cellx j hlt).1
              have hadd := leastV_add HY.out.1 m.toNat j (by omega) (by rw [show ((m.toNat : Nat) : Int) = m by omega, HL.out]; omega)
              rw [show ((m.toNat : Nat) : Int) = m by omega, HL.out] at hadd
              rw [List.getD_eq_getElem?_getD] at hD
              obtain ⟨z, hzz⟩ : ∃ z, qs[j]?.getD 0 = z := ⟨_, rfl⟩
              rw [hzz] at hz hD hadd
              obtain ⟨L3, hL3⟩ : ∃ L3, leastV qs (m + z) = L3 := ⟨_, rfl⟩
              have C3 : ∀ w, Ints w (some ⟨gb, go, none⟩) k qs → Calls Tryd.prog 34 #[.slice (some ⟨gb, go, none⟩) k c, .int .i64 (m + z)] w fun E w' => E = .returned (.int .i64 L3) ∧ Below w.heap.size w w' := fun w h => by have := CoinsLeast_i (some ⟨gb, go, none⟩) k c qs (m + z) w h (by omega); rw [hL3] at this; exact this
              rw [hL3] at hadd
              have i1 : (0 : Int) ≤ (j : Int) := by omega
              have i2 : (j : Int) < (k : Int) := by omega
              have HA := Lib.hid hadd
              have HZZ := Lib.hid hzz
              clear hadd hL3 hzz
              by_cases h3 : m + z ≤ 300
              · have h3b : decide (m + z ≤ 300) = true := by simpa using h3
                have ha := HA.out (by omega)
                have a1 : decide (L3 < 0) = false := by simp; omega
                have a2 : decide (L + 1 < L3) = false := by simp; omega
                clear ha HA
                go_wp2_with (go_at_call 34; ((with_reducible refine (C3 _ hC).mono ?_); rintro E wk ⟨rfl, hb⟩; replace hC := hC.below hb; have hD := (hC.cellx j hlt).1; rw [List.getD_eq_getElem?_getD, HZZ.out] at hD; replace hw := bt hw hb; clear hb))
                all_goals
                  go_roundw
                  case rel => exact ⟨j + 1, hlt, by go_num, hC, hw⟩
                  case measure => simp [intOf]; omega
              · have h3b : decide (m + z ≤ 300) = false := by simpa using h3
                clear HA
                go_wp2_with (go_at_call 34; ((with_reducible refine (C3 _ hC).mono ?_); rintro E wk ⟨rfl, hb⟩; replace hC := hC.below hb; have hD := (hC.cellx j hlt).1; rw [List.getD_eq_getElem?_getD, HZZ.out] at hD; replace hw := bt hw hb; clear hb))
                all_goals
                  go_roundw
                  case rel => exact ⟨j + 1, hlt, by go_num, hC, hw⟩
                  case measure => simp [intOf]; omega
            · obtain rfl : j = k := by omega
              go_wp2
              go_ret
              exact ⟨ret_bool (by first | (simp; done) | (simp; omega)), hw⟩
end Go.Proofs.YtjijaejlcbailaaDoor
