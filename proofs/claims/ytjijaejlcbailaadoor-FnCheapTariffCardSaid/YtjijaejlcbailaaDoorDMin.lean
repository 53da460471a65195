/- What l20Minutes, l20Amount, l20Now return is bounded; of memory only the reader's block changes. No condition. -/
import Derived.Test.YtjijaejlcbailaaDoorRB
namespace Go.Proofs.YtjijaejlcbailaaDoor
open Go.RowKit
set_option linter.unusedVariables false
def R1 (w : World) (r B : Nat) (e : Ending) (w' : World) : Prop := ∃ x, e = .returned (.int .i64 x) ∧ Sm x ∧ RB w' r B ∧ Stp r w w'
theorem mul_small {x y a b : Int} (h0 : 0 ≤ x) (h1 : 0 ≤ y) (h2 : x ≤ a) (h3 : y ≤ b) (hab : a * b ≤ 1000000) : IntKind.i64.wrap (x * y) = x * y ∧ 0 ≤ x * y ∧ x * y ≤ a * b := by
  have g1 : 0 ≤ x * y := Int.mul_nonneg h0 h1
  have g2 : x * y ≤ a * b := Int.mul_le_mul h2 h3 h1 (by omega)
  exact ⟨IntWalk.i64_in _ (by omega), g1, g2⟩
set_option maxRecDepth 100000 in
theorem minutes_ok (r : Nat) (B : Nat) (w : World) (h : RB w r B) (hB : B ≤ 800000000) :
    Calls Tryd.prog 69 #[.pointer (some ⟨r, 0, none⟩)] w (R1 w r (B + 5)) := by
  have hlt := h.lt
  have H0 := Lib.hid h
  clear h
  go_enter Tryd.func69, Tryd.ntmps69
  go_wp2_with (go_at_call 66; refine (pk r _ _ _ H0.out (by omega) (by omega) (by omega)).mono ?_; rintro e w1 ⟨x1, rfl, y1, z1, hr, s1⟩; have H1 := Lib.hid hr; have S1 := Lib.hid s1; have hl1 := hr.lt; clear hr H0 s1)
  · have hL := Blk.new w1 3 #[.int .i64 (-1), .int .i64 9999, .int .i64 10000, .int .i64 1439, .int .i64 1440, .int .i64 1441, .int .i64 2880]
    have H2 := Lib.hid (H1.out.alloc (.cells #[.int .i64 (-1), .int .i64 9999, .int .i64 10000, .int .i64 1439, .int .i64 1440, .int .i64 1441, .int .i64 2880] 3))
    have S2 := Lib.hid (S1.out.trans (Stp.of_below ((Below.refl w1.heap.size w1).alloc (Nat.le_refl _) (.cells #[.int .i64 (-1), .int .i64 9999, .int .i64 10000, .int .i64 1439, .int .i64 1440, .int .i64 1441, .int .i64 2880] 3)) (by omega)))
    go_wp2_with (go_at_call 66; refine (pk r _ _ _ H2.out (by omega) (by omega) (by omega)).mono ?_; rintro e w2 ⟨x2, rfl, y2, z2, hr, s2⟩; replace hL := s2.blk hL (by omega); have c0 := hL.cell 0; have c1 := hL.cell 1; have c2 := hL.cell 2; have c3 := hL.cell 3; have c4 := hL.cell 4; have c5 := hL.cell 5; have c6 := hL.cell 6; simp at c0 c1 c2 c3 c4 c5 c6; have H3 := Lib.hid hr; have S3 := Lib.hid (S2.out.trans s2); clear hr s2 hL H2 S2; rcases (show x2 = 0 ∨ x2 = 1 ∨ x2 = 2 ∨ x2 = 3 ∨ x2 = 4 ∨ x2 = 5 ∨ x2 = 6 by omega) with rfl | rfl | rfl | rfl | rfl | rfl | rfl)
    all_goals (go_ret; exact ⟨_, rfl, by unfold Sm; omega, H3.out.le (by omega), S3.out⟩)
  · go_wp2_with (go_at_call 66; refine (pk r _ _ _ H1.out (by omega) (by omega) (by omega)).mono ?_; rintro e w2 ⟨x2, rfl, y2, z2, hr, s2⟩; have H2 := Lib.hid hr; have S2 := Lib.hid (S1.out.trans s2); clear hr s2 H1 S1)
    go_wp2_with (go_at_call 66; refine (pk r _ _ _ H2.out (by omega) (by omega) (by omega)).mono ?_; rintro e w3 ⟨x3, rfl, y3, z3, hr, s3⟩; have H3 := Lib.hid hr; have S3 := Lib.hid (S2.out.trans s3); clear hr s3 H2 S2)
    have hm := mul_small (a := 255) (b := 38) y2 y3 (by omega) (by omega) (by omega)
    go_ret
    exact ⟨x2 * x3, ret_int (IntWalk.wrap64_in _ (by omega)), by unfold Sm; omega, H3.out.le (by omega), S3.out⟩
  · go_wp2_with (go_at_call 66; refine (pk r _ _ _ H1.out (by omega) (by omega) (by omega)).mono ?_; rintro e w2 ⟨x2, rfl, y2, z2, hr, s2⟩; have H2 := Lib.hid hr; have S2 := Lib.hid (S1.out.trans s2); clear hr s2 H1 S1)
    go_ret
    exact ⟨_, rfl, by unfold Sm; omega, H2.out.le (by omega), S2.out⟩
end Go.Proofs.YtjijaejlcbailaaDoor
