/- The walk of the law on ChangeFrom: the program returns what the reference returns, in new memory. No condition. -/
import Derived.Test.YtghfdkalblipgaaCSpec
namespace Go.Proofs.Ytghfdkalblipgaa
open Go.RowKit
theorem cw_len2 (z q : Nat → Nat) (n a : Nat) : (cwV z q n a).length ≤ n := by unfold cwV; split; (rw [List.length_map, way_len]; exact Nat.le_refl _); simp
theorem ch_len (zs qs : List Int) (a : Int) : (chV zs qs a).length ≤ zs.length := by unfold chV; split; exact cw_len2 _ _ _ _; simp
set_option maxHeartbeats 4000000 in
theorem FnExactChangeFrom_walk (w : World) (a0 : Option Addr) (n0 c0 : Nat) (z0 : List Int) (w0 : Nums .i64 w a0 n0 c0 z0) (a1 : Option Addr) (n1 c1 : Nat) (z1 : List Int) (w1 : Nums .i64 w a1 n1 c1 z1) (m2 : Int) (_h2 : In64 m2) :
    Calls Try.prog 4 #[.slice a0 n0 c0, .slice a1 n1 c1, .int .i64 m2] w fun e w' => e = .returned (.bool true) ∧ Below w.heap.size w w' := by
  have hA0 := w0.ints
  have hm0 := w0.len
  clear w0
  have hA1 := w1.ints
  have hm1 := w1.len
  clear w1
  by_cases l0 : n0 ≤ 1048576
  case neg =>
    go_enter Try.func4, Try.ntmps4
    go_wp2_with fail
    go_ret
    exact ⟨rfl, Below.refl _ _⟩
  by_cases l1 : n1 ≤ 1048576
  case neg =>
    go_enter Try.func4, Try.ntmps4
    go_wp2_with fail
    go_ret
    exact ⟨rfl, Below.refl _ _⟩
  have hE0 : eqB z0 z0 = true := by simp [eqB]
  have hl0 := hA0.1
  have hE1 : eqB z1 z1 = true := by simp [eqB]
  have hl1 := hA1.1
  have hEX : eqB (chV z0 z1 m2) (chV z0 z1 m2) = true := by simp [eqB]
  have hlX : (chV z0 z1 m2).length ≤ 1048576 := by have := ch_len z0 z1 m2; omega
  clear hl0
  clear hl1
  go_enter Try.func4, Try.ntmps4
  have hT : Below w.heap.size w w := Below.refl _ _
  go_wp2_with fail
  refine (toIntS_any _ _ _ z0 _ (hA0.below hT) l0).mono ?_
  rintro e v1 ⟨ghS0, rfl, _, hS0, hB, hb⟩
  clear hB
  replace hT := bt hT hb
  have hz1 := hb.size
  clear hb
  go_wp2_with fail
  refine (toIntS_any _ _ _ z1 _ (hA1.below hT) l1).mono ?_
  rintro e v2 ⟨ghS1, rfl, _, hS1, hB, hb⟩
  clear hB
  replace hS0 := hS0.below hb
  replace hT := bt hT hb
  have hz2 := hb.size
  clear hb
  go_wp2_with fail
  refine (ChangeFrom_s _ _ _ _ _ _ z0 z1 _ _ hS0 hS1 l0 l1).mono ?_
  intro e v3 r
  obtain ⟨AhW, chW, rfl, hW, hb⟩ := r.own
  clear r
  replace hS0 := hS0.below hb
  replace hS1 := hS1.below hb
  replace hT := bt hT hb
  have hz3 := hb.size
  clear hb
  clear hS0 hS1
  go_wp2_with fail
  refine (toIntS_own _ _ _ z0 _ (hA0.below hT) l0).mono ?_
  rintro e v4 ⟨AhX0, rfl, hX0, hb⟩
  replace hW := hW.below hb
  replace hT := bt hT hb
  have hz4 := hb.size
  clear hb
  go_wp2_with fail
  refine (toIntS_own _ _ _ z1 _ (hA1.below hT) l1).mono ?_
  rintro e v5 ⟨AhX1, rfl, hX1, hb⟩
  replace hW := hW.below hb
  replace hX0 := hX0.below hb
  replace hT := bt hT hb
  have hz5 := hb.size
  clear hb
  go_wp2_with fail
  refine (ChangeFrom_i _ _ _ _ _ _ z0 z1 _ _ hX0.ints hX1.ints l0 l1).mono ?_
  intro e v6 r
  obtain ⟨AhG, chG, rfl, hG, hb⟩ := r.own
  clear r
  replace hW := hW.below hb
  replace hX0 := hX0.below hb
  replace hX1 := hX1.below hb
  replace hT := bt hT hb
  have hz6 := hb.size
  clear hb
  go_wp2_with fail
  refine (eqIntS_any _ _ _ _ _ _ (chV z0 z1 m2) (chV z0 z1 m2) _ hG.ints hW.ints (by omega)).mono ?_
  rintro e v7 ⟨rfl, hb⟩
  replace hW := hW.below hb
  replace hX0 := hX0.below hb
  replace hX1 := hX1.below hb
  replace hG := hG.below hb
  replace hT := bt hT hb
  have hz7 := hb.size
  clear hb
  go_wp2_with fail
  refine (toIntS_any _ _ _ z0 _ (hA0.below hT) l0).mono ?_
  rintro e v8 ⟨ghS0, rfl, _, hS0, hB, hb⟩
  clear hB
  replace hW := hW.below hb
  replace hX0 := hX0.below hb
  replace hX1 := hX1.below hb
  replace hG := hG.below hb
  replace hT := bt hT hb
  have hz8 := hb.size
  clear hb
  go_wp2_with fail
  refine (eqIntS_any _ _ _ _ _ _ (z0) (z0) _ hX0.ints hS0 (by omega)).mono ?_
  rintro e v9 ⟨rfl, hb⟩
  replace hW := hW.below hb
  replace hX0 := hX0.below hb
  replace hX1 := hX1.below hb
  replace hG := hG.below hb
  replace hS0 := hS0.below hb
  replace hT := bt hT hb
  have hz9 := hb.size
  clear hb
  clear hS0
  go_wp2_with fail
  refine (toIntS_any _ _ _ z1 _ (hA1.below hT) l1).mono ?_
  rintro e v10 ⟨ghS1, rfl, _, hS1, hB, hb⟩
  clear hB
  replace hW := hW.below hb
  replace hX0 := hX0.below hb
  replace hX1 := hX1.below hb
  replace hG := hG.below hb
  replace hT := bt hT hb
  have hz10 := hb.size
  clear hb
  go_wp2_with fail
  refine (eqIntS_any _ _ _ _ _ _ (z1) (z1) _ hX1.ints hS1 (by omega)).mono ?_
  rintro e v11 ⟨rfl, hb⟩
  replace hW := hW.below hb
  replace hX0 := hX0.below hb
  replace hX1 := hX1.below hb
  replace hG := hG.below hb
  replace hS1 := hS1.below hb
  replace hT := bt hT hb
  have hz11 := hb.size
  clear hb
  clear hS1
  go_wp2_with fail
  refine (markIntS_any _ _ _ _ _ (z0) 1 _ hX0 (by omega) (by omega) (by omega)).mono ?_
  rintro e v12 ⟨rfl, hN, hc⟩
  clear hX0
  have hX0 := hN
  clear hN
  replace hW := hW.chg hc (by omega)
  replace hX1 := hX1.chg hc (by omega)
  replace hG := hG.chg hc (by omega)
  replace hT := hT.trans (hc.below (by omega) (by omega))
  have hz12 := hc.size
  clear hc
  go_wp2_with fail
  refine (markIntS_any _ _ _ _ _ (z1) _ _ hX1 (by omega) (by omega) (by omega)).mono ?_
  rintro e v13 ⟨rfl, hN, hc⟩
  clear hX1
  have hX1 := hN
  clear hN
  replace hW := hW.chg hc (by omega)
  replace hX0 := hX0.chg hc (by omega)
  replace hG := hG.chg hc (by omega)
  replace hT := hT.trans (hc.below (by omega) (by omega))
  have hz13 := hc.size
  clear hc
  clear hX0
  clear hX1
  go_wp2_with fail
  refine (eqIntS_any _ _ _ _ _ _ (chV z0 z1 m2) (chV z0 z1 m2) _ hG.ints hW.ints (by omega)).mono ?_
  rintro e v14 ⟨rfl, hb⟩
  replace hW := hW.below hb
  replace hG := hG.below hb
  replace hT := bt hT hb
  have hz14 := hb.size
  clear hb
  go_wp2_with fail
  refine (markIntS_any _ _ _ _ _ (chV z0 z1 m2) 1 _ hG (by omega) (by omega) (by omega)).mono ?_
  rintro e v15 ⟨rfl, hN, hc⟩
  clear hG
  have hG := hN
  clear hN
  replace hW := hW.chg hc (by omega)
  replace hT := hT.trans (hc.below (by omega) (by omega))
  have hz15 := hc.size
  clear hc
  go_wp2_with fail
  refine (heldIntS_any _ _ _ 1 _ hG.ints (by omega) (by omega) (by omega)).mono ?_
  rintro e v16 ⟨rfl, hb⟩
  replace hW := hW.below hb
  replace hG := hG.below hb
  replace hT := bt hT hb
  have hz16 := hb.size
  clear hb
  go_wp2_with fail
  refine (toIntS_any _ _ _ z0 _ (hA0.below hT) l0).mono ?_
  rintro e v17 ⟨ghS0, rfl, _, hS0, hB, hb⟩
  clear hB
  replace hW := hW.below hb
  replace hG := hG.below hb
  replace hT := bt hT hb
  have hz17 := hb.size
  clear hb
  go_wp2_with fail
  refine (toIntS_any _ _ _ z1 _ (hA1.below hT) l1).mono ?_
  rintro e v18 ⟨ghS1, rfl, _, hS1, hB, hb⟩
  clear hB
  replace hW := hW.below hb
  replace hG := hG.below hb
  replace hS0 := hS0.below hb
  replace hT := bt hT hb
  have hz18 := hb.size
  clear hb
  go_wp2_with fail
  refine (ChangeFrom_i _ _ _ _ _ _ z0 z1 _ _ hS0 hS1 l0 l1).mono ?_
  intro e v19 r
  obtain ⟨AhH, chH, rfl, hH, hb⟩ := r.own
  clear r
  replace hW := hW.below hb
  replace hG := hG.below hb
  replace hS0 := hS0.below hb
  replace hS1 := hS1.below hb
  replace hT := bt hT hb
  have hz19 := hb.size
  clear hb
  clear hS0 hS1
  go_wp2_with fail
  refine (eqIntS_any _ _ _ _ _ _ (chV z0 z1 m2) (chV z0 z1 m2) _ hH.ints hW.ints (by omega)).mono ?_
  rintro e v20 ⟨rfl, hb⟩
  replace hW := hW.below hb
  replace hG := hG.below hb
  replace hH := hH.below hb
  replace hT := bt hT hb
  have hz20 := hb.size
  clear hb
  go_wp2_with fail
  refine (heldIntS_any _ _ _ 1 _ hG.ints (by omega) (by omega) (by omega)).mono ?_
  rintro e v21 ⟨rfl, hb⟩
  replace hW := hW.below hb
  replace hG := hG.below hb
  replace hH := hH.below hb
  replace hT := bt hT hb
  have hz21 := hb.size
  clear hb
  go_wp2_with fail
  go_ret
  exact ⟨rfl, hT⟩
end Go.Proofs.Ytghfdkalblipgaa
