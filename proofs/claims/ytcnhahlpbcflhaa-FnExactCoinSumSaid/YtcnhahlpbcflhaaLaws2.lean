/- The walks of laws over slices of ints: the program returns what the reference returns. No condition. -/
import Derived.Test.YtcnhahlpbcflhaaCSum
namespace Go.Proofs.Ytcnhahlpbcflhaa
open Go.RowKit
theorem FnExactCoinsValid_walk (w : World) (a0 : Option Addr) (n0 c0 : Nat) (z0 : List Int) (w0 : Nums .i64 w a0 n0 c0 z0) :
    Calls Try.prog 8 #[.slice a0 n0 c0] w fun e w' => e = .returned (.bool true) ∧ Below w.heap.size w w' := by
  have hA0 := w0.ints
  have hm0 := w0.len
  clear w0
  by_cases l0 : n0 ≤ 1048576
  case neg =>
    go_enter Try.func8, Try.ntmps8
    go_wp2_with fail
    go_ret
    exact ⟨rfl, Below.refl _ _⟩
  have hE0 : eqB z0 z0 = true := by simp [eqB]
  go_enter Try.func8, Try.ntmps8
  have hT : Below w.heap.size w w := Below.refl _ _
  go_wp2_with fail
  refine (toIntS_any _ _ _ z0 _ hA0 l0).mono ?_
  rintro e v1 ⟨g1, rfl, _, hX1, hB1, hb⟩
  clear hB1
  replace hA0 := hA0.below hb
  replace hT := bt hT hb
  clear hb
  go_wp2_with fail
  refine (CoinsValid_s _ _ _ z0 _ hX1 (by omega)).mono ?_
  rintro e v2 ⟨rfl, hb⟩
  replace hA0 := hA0.below hb
  replace hX1 := hX1.below hb
  replace hT := bt hT hb
  clear hb
  clear hX1
  go_wp2_with fail
  refine (toIntS_any _ _ _ z0 _ hA0 l0).mono ?_
  rintro e v3 ⟨g3, rfl, _, hX3, hB3, hb⟩
  clear hB3
  replace hA0 := hA0.below hb
  replace hT := bt hT hb
  clear hb
  go_wp2_with fail
  refine (CoinsValid_i _ _ _ z0 _ hX3 (by omega)).mono ?_
  rintro e v4 ⟨rfl, hb⟩
  replace hA0 := hA0.below hb
  replace hX3 := hX3.below hb
  replace hT := bt hT hb
  clear hb
  go_wp2_with fail
  refine (toIntS_any _ _ _ z0 _ hA0 l0).mono ?_
  rintro e v5 ⟨g5, rfl, _, hX5, hB5, hb⟩
  clear hB5
  replace hA0 := hA0.below hb
  replace hX3 := hX3.below hb
  replace hT := bt hT hb
  clear hb
  go_wp2_with fail
  refine (eqIntS_any _ _ _ _ _ _ z0 z0 _ hX3 hX5 (by omega)).mono ?_
  rintro e v6 ⟨rfl, hb⟩
  replace hA0 := hA0.below hb
  replace hX3 := hX3.below hb
  replace hX5 := hX5.below hb
  replace hT := bt hT hb
  clear hb
  go_wp2_with fail
  go_ret
  exact ⟨rfl, hT⟩
theorem FnExactCoinSum_walk (w : World) (a0 : Option Addr) (n0 c0 : Nat) (z0 : List Int) (w0 : Nums .i64 w a0 n0 c0 z0) (a1 : Option Addr) (n1 c1 : Nat) (z1 : List Int) (w1 : Nums .i64 w a1 n1 c1 z1) :
    Calls Try.prog 11 #[.slice a0 n0 c0, .slice a1 n1 c1] w fun e w' => e = .returned (.bool true) ∧ Below w.heap.size w w' := by
  have hA0 := w0.ints
  have hm0 := w0.len
  clear w0
  have hA1 := w1.ints
  have hm1 := w1.len
  clear w1
  by_cases l0 : n0 ≤ 1048576
  case neg =>
    go_enter Try.func11, Try.ntmps11
    go_wp2_with fail
    go_ret
    exact ⟨rfl, Below.refl _ _⟩
  by_cases l1 : n1 ≤ 1048576
  case neg =>
    go_enter Try.func11, Try.ntmps11
    go_wp2_with fail
    go_ret
    exact ⟨rfl, Below.refl _ _⟩
  have hE0 : eqB z0 z0 = true := by simp [eqB]
  have hE1 : eqB z1 z1 = true := by simp [eqB]
  go_enter Try.func11, Try.ntmps11
  have hT : Below w.heap.size w w := Below.refl _ _
  go_wp2_with fail
  refine (toIntS_any _ _ _ z0 _ hA0 l0).mono ?_
  rintro e v1 ⟨g1, rfl, _, hX1, hB1, hb⟩
  clear hB1
  replace hA0 := hA0.below hb
  replace hA1 := hA1.below hb
  replace hT := bt hT hb
  clear hb
  go_wp2_with fail
  refine (toIntS_any _ _ _ z1 _ hA1 l1).mono ?_
  rintro e v2 ⟨g2, rfl, _, hX2, hB2, hb⟩
  clear hB2
  replace hA0 := hA0.below hb
  replace hA1 := hA1.below hb
  replace hX1 := hX1.below hb
  replace hT := bt hT hb
  clear hb
  go_wp2_with fail
  refine (CoinSum_s _ _ _ _ _ _ z0 z1 _ hX1 hX2 l0 l1).mono ?_
  rintro e v3 ⟨rfl, hb⟩
  replace hA0 := hA0.below hb
  replace hA1 := hA1.below hb
  replace hX1 := hX1.below hb
  replace hX2 := hX2.below hb
  replace hT := bt hT hb
  clear hb
  clear hX1 hX2
  go_wp2_with fail
  refine (toIntS_any _ _ _ z0 _ hA0 l0).mono ?_
  rintro e v4 ⟨g4, rfl, _, hX4, hB4, hb⟩
  clear hB4
  replace hA0 := hA0.below hb
  replace hA1 := hA1.below hb
  replace hT := bt hT hb
  clear hb
  go_wp2_with fail
  refine (toIntS_any _ _ _ z1 _ hA1 l1).mono ?_
  rintro e v5 ⟨g5, rfl, _, hX5, hB5, hb⟩
  clear hB5
  replace hA0 := hA0.below hb
  replace hA1 := hA1.below hb
  replace hX4 := hX4.below hb
  replace hT := bt hT hb
  clear hb
  go_wp2_with fail
  refine (CoinSum_i _ _ _ _ _ _ z0 z1 _ hX4 hX5 l0 l1).mono ?_
  rintro e v6 ⟨rfl, hb⟩
  replace hA0 := hA0.below hb
  replace hA1 := hA1.below hb
  replace hX4 := hX4.below hb
  replace hX5 := hX5.below hb
  replace hT := bt hT hb
  clear hb
  go_wp2_with fail
  refine (toIntS_any _ _ _ z0 _ hA0 l0).mono ?_
  rintro e v7 ⟨g7, rfl, _, hX7, hB7, hb⟩
  clear hB7
  replace hA0 := hA0.below hb
  replace hA1 := hA1.below hb
  replace hX4 := hX4.below hb
  replace hX5 := hX5.below hb
  replace hT := bt hT hb
  clear hb
  go_wp2_with fail
  refine (eqIntS_any _ _ _ _ _ _ z0 z0 _ hX4 hX7 (by omega)).mono ?_
  rintro e v8 ⟨rfl, hb⟩
  replace hA0 := hA0.below hb
  replace hA1 := hA1.below hb
  replace hX4 := hX4.below hb
  replace hX5 := hX5.below hb
  replace hX7 := hX7.below hb
  replace hT := bt hT hb
  clear hb
  go_wp2_with fail
  refine (toIntS_any _ _ _ z1 _ hA1 l1).mono ?_
  rintro e v9 ⟨g9, rfl, _, hX9, hB9, hb⟩
  clear hB9
  replace hA0 := hA0.below hb
  replace hA1 := hA1.below hb
  replace hX4 := hX4.below hb
  replace hX5 := hX5.below hb
  replace hX7 := hX7.below hb
  replace hT := bt hT hb
  clear hb
  go_wp2_with fail
  refine (eqIntS_any _ _ _ _ _ _ z1 z1 _ hX5 hX9 (by omega)).mono ?_
  rintro e v10 ⟨rfl, hb⟩
  replace hA0 := hA0.below hb
  replace hA1 := hA1.below hb
  replace hX4 := hX4.below hb
  replace hX5 := hX5.below hb
  replace hX7 := hX7.below hb
  replace hX9 := hX9.below hb
  replace hT := bt hT hb
  clear hb
  go_wp2_with fail
  go_ret
  exact ⟨rfl, hT⟩
end Go.Proofs.Ytcnhahlpbcflhaa
