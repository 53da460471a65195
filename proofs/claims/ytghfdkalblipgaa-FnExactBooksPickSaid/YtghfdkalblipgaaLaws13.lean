/- The walk of the law on BooksPick: the program returns what the reference returns. No condition. -/
import Derived.Test.YtghfdkalblipgaaPick
namespace Go.Proofs.Ytghfdkalblipgaa
open Go.RowKit
theorem FnExactBooksPick_walk (w : World) (a0 : Option Addr) (n0 c0 : Nat) (z0 : List Quad) (w0 : Quads w a0 n0 c0 z0) (m1 : Int) (_h1 : In64 m1) :
    Calls Try.prog 5 #[.slice a0 n0 c0, .int .i64 m1] w fun e w' => e = .returned (.bool true) ∧ Below w.heap.size w w' := by
  have hA0 := w0.books
  have hm0 := w0.len
  clear w0
  by_cases l0 : n0 ≤ 1048576
  case neg =>
    go_enter Try.func5, Try.ntmps5
    go_wp2_with fail
    refine (szBookS_big _ _ _ _ _ hm0 (by omega) (by omega)).mono ?_
    rintro e w' ⟨rfl, rfl⟩
    go_wp2_with fail
    go_ret
    exact ⟨rfl, Below.refl _ _⟩
  have hE0 : eqQ z0 z0 = true := by simp [eqQ]
  go_enter Try.func5, Try.ntmps5
  go_wp2_with fail
  refine (szBookS_any _ _ _ _ _ hm0 (by omega) (by omega)).mono ?_
  rintro e w' ⟨rfl, rfl⟩
  have hT : Below w.heap.size w w := Below.refl _ _
  go_wp2_with fail
  refine (toBookS_any _ _ _ z0 _ hA0 l0).mono ?_
  rintro e v1 ⟨g1, rfl, _, hX1, hB1, hb⟩
  clear hB1
  replace hA0 := hA0.below hb
  replace hT := bt hT hb
  clear hb
  go_wp2_with fail
  refine (BooksPick_s _ _ _ z0 _ _ hX1 l0).mono ?_
  rintro e v2 ⟨rfl, hb⟩
  replace hA0 := hA0.below hb
  replace hX1 := hX1.below hb
  replace hT := bt hT hb
  clear hb
  clear hX1
  go_wp2_with fail
  refine (toBookS_any _ _ _ z0 _ hA0 l0).mono ?_
  rintro e v3 ⟨g3, rfl, _, hX3, hB3, hb⟩
  clear hB3
  replace hA0 := hA0.below hb
  replace hT := bt hT hb
  clear hb
  go_wp2_with fail
  refine (BooksPick_i _ _ _ z0 _ _ hX3 l0 (by omega)).mono ?_
  rintro e v4 ⟨rfl, hb⟩
  replace hA0 := hA0.below hb
  replace hX3 := hX3.below hb
  replace hT := bt hT hb
  clear hb
  go_wp2_with fail
  refine (toBookS_any _ _ _ z0 _ hA0 l0).mono ?_
  rintro e v5 ⟨g5, rfl, _, hX5, hB5, hb⟩
  clear hB5
  replace hA0 := hA0.below hb
  replace hX3 := hX3.below hb
  replace hT := bt hT hb
  clear hb
  go_wp2_with fail
  refine (eqBookS_any _ _ _ _ _ _ z0 z0 _ hX3 hX5 (by omega)).mono ?_
  rintro e v6 ⟨rfl, hb⟩
  replace hA0 := hA0.below hb
  replace hX3 := hX3.below hb
  replace hX5 := hX5.below hb
  replace hT := bt hT hb
  clear hb
  go_wp2_with fail
  go_ret
  exact ⟨rfl, hT⟩
end Go.Proofs.Ytghfdkalblipgaa
