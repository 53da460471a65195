/- The walk of the law on GreedySafe: the program returns what the reference returns. No condition. -/
import Derived.Test.YtaaaknklfenagaaGSafe2
namespace Go.Proofs.Ytaaaknklfenagaa
open Go.RowKit
theorem FnExactGreedySafe_walk (w : World) (a0 : Option Addr) (n0 c0 : Nat) (z0 : List Int) (w0 : Nums .i64 w a0 n0 c0 z0) :
    Calls Try.prog 11 #[.slice a0 n0 c0] w fun e w' => e = .returned (.bool true) ∧ Below w.heap.size w w' := by
  have hA0 := w0.ints
  have hm0 := w0.len
  clear w0
  by_cases l0 : n0 ≤ 1048576
  case neg =>
    go_enter Try.func11, Try.ntmps11
    go_wp2_with fail
    go_ret
    exact ⟨rfl, Below.refl _ _⟩
  have hE0 : eqB z0 z0 = true := by simp [eqB]
  go_enter Try.func11, Try.ntmps11
  have hT : Below w.heap.size w w := Below.refl _ _
  go_wp2_with fail
  refine (toIntS_any _ _ _ z0 _ hA0 l0).mono ?_
  rintro e v1 ⟨g1, rfl, _, hX1, hB1, hb⟩
  clear hB1
  replace hA0 := hA0.below hb
  replace hT := bt hT hb
  clear hb
  go_wp2_with fail
  refine (GreedySafe_s _ _ _ z0 _ hX1 l0).mono ?_
  rintro e v2 ⟨rfl, hb⟩
  replace hA0 := hA0.below hb
  replace hX1 := hX1.below hb
  replace hT := bt hT hb
  clear hb
  clear hX1
  go_wp2_with fail
  refine (toIntS_any _ _ _ z0 _ hA0 l0).mono ?_
  rintro e v3 ⟨g3, rfl, _, hX3, hB3, hb⟩
  clear hB3
  replace hA0 := hA0.below hb
  replace hT := bt hT hb
  clear hb
  go_wp2_with fail
  refine (GreedySafe_i _ _ _ z0 _ hX3 l0).mono ?_
  rintro e v4 ⟨rfl, hb⟩
  replace hA0 := hA0.below hb
  replace hX3 := hX3.below hb
  replace hT := bt hT hb
  clear hb
  go_wp2_with fail
  refine (toIntS_any _ _ _ z0 _ hA0 l0).mono ?_
  rintro e v5 ⟨g5, rfl, _, hX5, hB5, hb⟩
  clear hB5
  replace hA0 := hA0.below hb
  replace hX3 := hX3.below hb
  replace hT := bt hT hb
  clear hb
  go_wp2_with fail
  refine (eqIntS_any _ _ _ _ _ _ z0 z0 _ hX3 hX5 (by omega)).mono ?_
  rintro e v6 ⟨rfl, hb⟩
  replace hA0 := hA0.below hb
  replace hX3 := hX3.below hb
  replace hX5 := hX5.below hb
  replace hT := bt hT hb
  clear hb
  go_wp2_with fail
  go_ret
  exact ⟨rfl, hT⟩
end Go.Proofs.Ytaaaknklfenagaa
