/- The walk of the law on CoinsFor: the program returns what the reference returns, in new memory. No condition. -/
import Derived.Test.YtghfdkalblipgaaCSpec2
namespace Go.Proofs.Ytghfdkalblipgaa
open Go.RowKit
theorem cw_len (z q : Nat → Nat) (n a : Nat) : (cwV z q n a).length ≤ n := by unfold cwV; split; (rw [List.length_map, way_len]; exact Nat.le_refl _); simp
theorem cf_len (zs : List Int) (a : Int) : (cfV zs a).length ≤ zs.length := by unfold cfV; split; exact cw_len _ _ _ _; simp
set_option maxHeartbeats 4000000 in
theorem FnExactCoinsFor_walk (w : World) (a0 : Option Addr) (n0 c0 : Nat) (z0 : List Int) (w0 : Nums .i64 w a0 n0 c0 z0) (m1 : Int) (_h1 : In64 m1) :
    Calls Try.prog 3 #[.slice a0 n0 c0, .int .i64 m1] w fun e w' => e = .returned (.bool true) ∧ Below w.heap.size w w' := by
  have hA0 := w0.ints
  have hm0 := w0.len
  clear w0
  by_cases l0 : n0 ≤ 1048576
  case neg =>
    go_enter Try.func3, Try.ntmps3
    go_wp2_with fail
    go_ret
    exact ⟨rfl, Below.refl _ _⟩
  have hE0 : eqB z0 z0 = true := by simp [eqB]
  have hl0 := hA0.1
  have hEX : eqB (cfV z0 m1) (cfV z0 m1) = true := by simp [eqB]
  have hlX : (cfV z0 m1).length ≤ 1048576 := by have := cf_len z0 m1; omega
  clear hl0
  go_enter Try.func3, Try.ntmps3
  have hT : Below w.heap.size w w := Below.refl _ _
  go_wp2_with fail
  refine (toIntS_any _ _ _ z0 _ (hA0.below hT) l0).mono ?_
  rintro e v1 ⟨ghS0, rfl, _, hS0, hB, hb⟩
  clear hB
  replace hT := bt hT hb
  have hz1 := hb.size
  clear hb
  go_wp2_with fail
  refine (CoinsFor_s _ _ _ z0 _ _ hS0 l0).mono ?_
  intro e v2 r
  obtain ⟨AhW, chW, rfl, hW, hb⟩ := r.own
  clear r
  replace hS0 := hS0.below hb
  replace hT := bt hT hb
  have hz2 := hb.size
  clear hb
  clear hS0
  go_wp2_with fail
  refine (toIntS_own _ _ _ z0 _ (hA0.below hT) l0).mono ?_
  rintro e v3 ⟨AhX0, rfl, hX0, hb⟩
  replace hW := hW.below hb
  replace hT := bt hT hb
  have hz3 := hb.size
  clear hb
  go_wp2_with fail
  refine (CoinsFor_i _ _ _ z0 _ _ hX0.ints l0).mono ?_
  intro e v4 r
  obtain ⟨AhG, chG, rfl, hG, hb⟩ := r.own
  clear r
  replace hW := hW.below hb
  replace hX0 := hX0.below hb
  replace hT := bt hT hb
  have hz4 := hb.size
  clear hb
  go_wp2_with fail
  refine (eqIntS_any _ _ _ _ _ _ (cfV z0 m1) (cfV z0 m1) _ hG.ints hW.ints (by omega)).mono ?_
  rintro e v5 ⟨rfl, hb⟩
  replace hW := hW.below hb
  replace hX0 := hX0.below hb
  replace hG := hG.below hb
  replace hT := bt hT hb
  have hz5 := hb.size
  clear hb
  go_wp2_with fail
  refine (toIntS_any _ _ _ z0 _ (hA0.below hT) l0).mono ?_
  rintro e v6 ⟨ghS0, rfl, _, hS0, hB, hb⟩
  clear hB
  replace hW := hW.below hb
  replace hX0 := hX0.below hb
  replace hG := hG.below hb
  replace hT := bt hT hb
  have hz6 := hb.size
  clear hb
  go_wp2_with fail
  refine (eqIntS_any _ _ _ _ _ _ (z0) (z0) _ hX0.ints hS0 (by omega)).mono ?_
  rintro e v7 ⟨rfl, hb⟩
  replace hW := hW.below hb
  replace hX0 := hX0.below hb
  replace hG := hG.below hb
  replace hS0 := hS0.below hb
  replace hT := bt hT hb
  have hz7 := hb.size
  clear hb
  clear hS0
  go_wp2_with fail
  refine (markIntS_any _ _ _ _ _ (z0) 1 _ hX0 (by omega) (by omega) (by omega)).mono ?_
  rintro e v8 ⟨rfl, hN, hc⟩
  clear hX0
  have hX0 := hN
  clear hN
  replace hW := hW.chg hc (by omega)
  replace hG := hG.chg hc (by omega)
  replace hT := hT.trans (hc.below (by omega) (by omega))
  have hz8 := hc.size
  clear hc
  clear hX0
  go_wp2_with fail
  refine (eqIntS_any _ _ _ _ _ _ (cfV z0 m1) (cfV z0 m1) _ hG.ints hW.ints (by omega)).mono ?_
  rintro e v9 ⟨rfl, hb⟩
  replace hW := hW.below hb
  replace hG := hG.below hb
  replace hT := bt hT hb
  have hz9 := hb.size
  clear hb
  go_wp2_with fail
  refine (markIntS_any _ _ _ _ _ (cfV z0 m1) 1 _ hG (by omega) (by omega) (by omega)).mono ?_
  rintro e v10 ⟨rfl, hN, hc⟩
  clear hG
  have hG := hN
  clear hN
  replace hW := hW.chg hc (by omega)
  replace hT := hT.trans (hc.below (by omega) (by omega))
  have hz10 := hc.size
  clear hc
  go_wp2_with fail
  refine (heldIntS_any _ _ _ 1 _ hG.ints (by omega) (by omega) (by omega)).mono ?_
  rintro e v11 ⟨rfl, hb⟩
  replace hW := hW.below hb
  replace hG := hG.below hb
  replace hT := bt hT hb
  have hz11 := hb.size
  clear hb
  go_wp2_with fail
  refine (toIntS_any _ _ _ z0 _ (hA0.below hT) l0).mono ?_
  rintro e v12 ⟨ghS0, rfl, _, hS0, hB, hb⟩
  clear hB
  replace hW := hW.below hb
  replace hG := hG.below hb
  replace hT := bt hT hb
  have hz12 := hb.size
  clear hb
  go_wp2_with fail
  refine (CoinsFor_i _ _ _ z0 _ _ hS0 l0).mono ?_
  intro e v13 r
  obtain ⟨AhH, chH, rfl, hH, hb⟩ := r.own
  clear r
  replace hW := hW.below hb
  replace hG := hG.below hb
  replace hS0 := hS0.below hb
  replace hT := bt hT hb
  have hz13 := hb.size
  clear hb
  clear hS0
  go_wp2_with fail
  refine (eqIntS_any _ _ _ _ _ _ (cfV z0 m1) (cfV z0 m1) _ hH.ints hW.ints (by omega)).mono ?_
  rintro e v14 ⟨rfl, hb⟩
  replace hW := hW.below hb
  replace hG := hG.below hb
  replace hH := hH.below hb
  replace hT := bt hT hb
  have hz14 := hb.size
  clear hb
  go_wp2_with fail
  refine (heldIntS_any _ _ _ 1 _ hG.ints (by omega) (by omega) (by omega)).mono ?_
  rintro e v15 ⟨rfl, hb⟩
  replace hW := hW.below hb
  replace hG := hG.below hb
  replace hH := hH.below hb
  replace hT := bt hT hb
  have hz15 := hb.size
  clear hb
  go_wp2_with fail
  go_ret
  exact ⟨rfl, hT⟩
end Go.Proofs.Ytghfdkalblipgaa
