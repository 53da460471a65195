/- What l20Stay returns is bounded; of memory only the reader's block changes. No condition. -/
import Derived.Test.YtnagghnmlcnbnaaDoorRB
namespace Go.Proofs.YtnagghnmlcnbnaaDoor
open Go.RowKit
set_option linter.unusedVariables false
set_option maxRecDepth 100000 in
set_option maxHeartbeats 2000000 in
theorem stay_ok (r : Nat) (m : Int) (B : Nat) (w : World) (h : RB w r B) (hB : B ≤ 800000000) (hm : -1000000 ≤ m) (hm2 : m ≤ 1000000) :
    Calls Tryd.prog 63 #[.pointer (some ⟨r, 0, none⟩), .int .i64 m] w (R3 w r (B + 10)) := by
  have hlt := h.lt
  have H0 := Lib.hid (h.alloc (.cells #[.int .i64 0, .int .i64 0, .int .i64 0] 26))
  clear h
  go_enter Tryd.func63, Tryd.ntmps63
  go_wp2_with (go_at_call 81; refine (pk r _ _ _ H0.out (by omega) (by omega) (by omega)).mono ?_; rintro e w1 ⟨x1, rfl, y1, z1, hr, s1⟩; have H1 := Lib.hid hr; clear hr H0)
  go_wp2_with (go_at_call 81; refine (pk r _ _ _ H1.out (by omega) (by omega) (by omega)).mono ?_; rintro e w2 ⟨x2, rfl, y2, z2, hr, s2⟩; have H2 := Lib.hid hr; clear hr H1)
  go_upto_region 2 with (go_at_call 81; refine (pk r _ _ _ H2.out (by omega) (by omega) (by omega)).mono ?_; rintro e w4 ⟨x3, rfl, y3, z3, hr, s4⟩; have H4 := Lib.hid hr; clear hr H2)
  have hy : ∃ y, wrap64 (x2 * x3) = y ∧ Sm y := by
    have h1 : 0 ≤ x2 * x3 := Int.mul_nonneg y2 y3
    have h2 : x2 * x3 ≤ 2 * 19 := Int.mul_le_mul (by omega) (by omega) y3 (by omega)
    exact ⟨x2 * x3, IntWalk.wrap64_in _ (by omega), by unfold Sm; omega⟩
  obtain ⟨y, hy, m2⟩ := hy
  rw [hy]
  have hlt4 := H4.out.lt
  have hR := (s1.trans (s2.trans s4)).blk (Blk.new w 26 #[.int .i64 0, .int .i64 0, .int .i64 0]) (by omega)
  have hRlt := hR.lt
  have T : St w (w4.alloc (.cells #[.int .i64 x1, .int .i64 y, .int .i64 0] 26)) r (B + 3) w4.heap.size w.heap.size 26 #[.int .i64 x1, .int .i64 y, .int .i64 0] #[.int .i64 0, .int .i64 0, .int .i64 0] :=
    ⟨H4.out.alloc _, Blk.new _ _ _, hR.alloc _, ((Stp.of_below ((Below.refl _ _).alloc (Nat.le_refl _) _) (Nat.le_of_lt hlt)).trans (s1.trans (s2.trans s4))).trans (Stp.of_below ((Below.refl _ _).alloc (Nat.le_refl _) _) (Nat.le_of_lt hlt4))⟩
  have m1 : Sm x1 := by unfold Sm; omega
  have m3 : Sm 0 := by unfold Sm; omega
  have x1a : x1 < 200 := by omega
  clear hR s1 s2 s4 H4 hy
  generalize w4.alloc (.cells #[.int .i64 x1, .int .i64 y, .int .i64 0] 26) = W at *
  generalize w4.heap.size = s at *
  go_cut [] (fun wx => ∃ b c, Sm b ∧ Sm c ∧ St w wx r (B + 4) s w.heap.size 26 #[.int .i64 x1, .int .i64 b, .int .i64 c] #[.int .i64 0, .int .i64 0, .int .i64 0])
  case first =>
    have q0 := T.2.1.cell 0
    simp at q0
    go_region_with (go_at_call 81; ((with_reducible refine (pk r _ _ _ (St.rb (St.drew T)) ?_ ?_ ?_).mono ?_); (omega); (omega); (omega); rintro e w6 ⟨x6, rfl, y6, z6, hr, hs⟩; replace T := T.drew.step hr hs (by omega) (by omega); have q1 := T.2.1.cell 0; have q2 := T.2.1.cell 2; have f2 := T.2.1.frozen 2; simp at q1 q2; clear hr hs q0))
    all_goals (
      have e : IntKind.i64.wrap (x1 + x6) = x1 + x6 := IntWalk.i64_in _ (by omega)
      have E := Lib.hid e
      clear e
      go_wp2_with fail
      go_meet
      rw [E.out]
      have h' := T.set (by omega) (by omega) (by omega) 2 (.int .i64 (x1 + x6))
      exact ⟨y, x1 + x6, m2, by unfold Sm; omega, by simpa using h'⟩)
  case rest =>
    obtain ⟨a2, a3, m2, m3, T⟩ := hcut
    go_upto_if 22 with (go_at_call 82; ((with_reducible refine (od r m _ _ (St.rb T) ?_ ?_ ?_).mono ?_); (omega); (omega); (omega); rintro e w5 ⟨o, rfl, _, hr, hs⟩; replace T := T.step hr hs (by omega) (by omega); clear hr hs))
    go_cut [] (fun wx => T3 w wx r (B + 10) s w.heap.size 26)
    case first =>
      have cs := T.2.1.cell
      have fs := T.2.1.frozen
      go_wp2_with (first
        | (go_at_call 81; ((with_reducible refine (pk r _ _ _ (St.rb T) ?_ ?_ ?_).mono ?_); (omega); (omega); (omega); rintro e w6 ⟨x6, rfl, y6, z6, hr, hs⟩; replace T := T.step hr hs (by omega) (by omega); clear hr hs cs fs; have cs := T.2.1.cell; have fs := T.2.1.frozen))
        | (go_at_call 81; ((with_reducible refine (pk2 T ?_ ?_ ?_ _ _ _).mono ?_); (omega); (omega); (omega); rintro e w7 ⟨x7, rfl, z7, c0, c1, hT⟩; replace T := hT; clear hT cs fs; have cs := T.2.1.cell; have fs := T.2.1.frozen; rcases z7 with rfl | rfl)))
      all_goals (go_meet; first | exact T3.same T (by omega) m1 m2 m3 | exact T3.put T (by omega) m1 m2 m3 (by omega) (by omega) (by omega) _ (by unfold Sm; omega) _)
    case rest =>
      obtain ⟨b1, b2, b3, n1, n2, n3, T⟩ := hcut
      have cs := T.2.1.cell
      have cR := T.2.2.1.cell
      have fR := T.2.2.1.frozen
      go_wp2
      have hE := ((T.2.2.1.set_ 0 (.int .i64 b1)).set_ 1 (.int .i64 b2)).set_ 2 (.int .i64 b3)
      simp at hE
      obtain ⟨k1, k2⟩ := T.fin3 (Nat.le_refl _) hlt (.int .i64 b1) (.int .i64 b2) (.int .i64 b3)
      refine bodyPost_ret (results_cell_row rfl _ _ w.heap.size _ _ _ _ rfl hE Tryd.underlying26 rfl (by kernel_rfl)) rfl ?_
      exact ⟨b1, b2, b3, rfl, n1, n2, n3, k1, k2⟩
end Go.Proofs.YtnagghnmlcnbnaaDoor
