/- What l20Tariff returns is bounded; of memory only the reader's block changes. No condition. -/
import Derived.Test.YtjijaejlcbailaaDoorRB
namespace Go.Proofs.YtjijaejlcbailaaDoor
open Go.RowKit
set_option linter.unusedVariables false
set_option maxRecDepth 100000 in
set_option maxHeartbeats 2000000 in
theorem tariff_ok (r : Nat) (m : Int) (B : Nat) (w : World) (h : RB w r B) (hB : B ≤ 800000000) (hm : -1000000 ≤ m) (hm2 : m ≤ 1000000) :
    Calls Tryd.prog 68 #[.pointer (some ⟨r, 0, none⟩), .int .i64 m] w (R4 w r (B + 10)) := by
  have hlt := h.lt
  have H0 := Lib.hid (h.alloc (.cells #[.int .i64 0, .int .i64 0, .int .i64 0, .int .i64 0] 42))
  clear h
  go_enter Tryd.func68, Tryd.ntmps68
  go_wp2_with (go_at_call 66; refine (pk r _ _ _ H0.out (by omega) (by omega) (by omega)).mono ?_; rintro e w1 ⟨x1, rfl, y1, z1, hr, s1⟩; have H1 := Lib.hid hr; clear hr H0)
  go_wp2_with (go_at_call 66; refine (pk r _ _ _ H1.out (by omega) (by omega) (by omega)).mono ?_; rintro e w2 ⟨x2, rfl, y2, z2, hr, s2⟩; have H2 := Lib.hid hr; clear hr H1)
  go_wp2_with (go_at_call 66; refine (pk r _ _ _ H2.out (by omega) (by omega) (by omega)).mono ?_; rintro e w3 ⟨x3, rfl, y3, z3, hr, s3⟩; have H3 := Lib.hid hr; clear hr H2)
  go_wp2_with (go_at_call 66; refine (pk r _ _ _ H3.out (by omega) (by omega) (by omega)).mono ?_; rintro e w4 ⟨x4, rfl, y4, z4, hr, s4⟩; have H4 := Lib.hid hr; clear hr H3)
  have hlt4 := H4.out.lt
  have hR := (s1.trans (s2.trans (s3.trans s4))).blk (Blk.new w 42 #[.int .i64 0, .int .i64 0, .int .i64 0, .int .i64 0]) (by omega)
  have hRlt := hR.lt
  have T : St w (w4.alloc (.cells #[.int .i64 (x1 * 10), .int .i64 (10 + x2 * 20), .int .i64 x3, .int .i64 (10 + x4)] 42)) r (B + 4) w4.heap.size w.heap.size 42 #[.int .i64 (x1 * 10), .int .i64 (10 + x2 * 20), .int .i64 x3, .int .i64 (10 + x4)] #[.int .i64 0, .int .i64 0, .int .i64 0, .int .i64 0] :=
    ⟨H4.out.alloc _, Blk.new _ _ _, hR.alloc _, ((Stp.of_below ((Below.refl _ _).alloc (Nat.le_refl _) _) (Nat.le_of_lt hlt)).trans (s1.trans (s2.trans (s3.trans s4)))).trans (Stp.of_below ((Below.refl _ _).alloc (Nat.le_refl _) _) (Nat.le_of_lt hlt4))⟩
  have m1 : Sm (x1 * 10) := by unfold Sm; omega
  have m2 : Sm (10 + x2 * 20) := by unfold Sm; omega
  have m3 : Sm x3 := by unfold Sm; omega
  have m4 : Sm (10 + x4) := by unfold Sm; omega
  clear hR s1 s2 s3 s4 H4
  generalize w4.alloc (.cells #[.int .i64 (x1 * 10), .int .i64 (10 + x2 * 20), .int .i64 x3, .int .i64 (10 + x4)] 42) = W at *
  generalize w4.heap.size = s at *
  generalize x1 * 10 = a1 at *
  generalize 10 + x2 * 20 = a2 at *
  generalize 10 + x4 = a4 at *
  clear y1 z1 y2 z2 y3 z3 y4 z4
  go_upto_if 21 with (go_at_call 67; refine (od r m _ _ T.1 (by omega) (by omega) (by omega)).mono ?_; rintro e w5 ⟨o, rfl, _, hr, hs⟩; replace T := T.step hr hs (by omega) (by omega); clear hr hs)
  go_cut [] (fun wx => T4 w wx r (B + 10) s w.heap.size 42)
  case first =>
    go_wp2_with (first
      | (go_at_call 66; ((with_reducible refine (pk r _ _ _ (St.rb T) ?_ ?_ ?_).mono ?_); (omega); (omega); (omega); rintro e w6 ⟨x6, rfl, y6, z6, hr, hs⟩; replace T := T.step hr hs (by omega) (by omega); clear hr hs))
      | (go_at_call 66; ((with_reducible refine (pk2 T ?_ ?_ ?_ _ _ _).mono ?_); (omega); (omega); (omega); rintro e w7 ⟨x7, rfl, z7, c0, c1, hT⟩; replace T := hT; clear hT; have cs := T.2.1.cell; have fs := T.2.1.frozen; rcases z7 with rfl | rfl)))
    all_goals (go_meet; first | exact T4.same T (by omega) m1 m2 m3 m4 | exact T4.put T (by omega) m1 m2 m3 m4 (by omega) (by omega) (by omega) _ (by unfold Sm; omega) _)
  case rest =>
    obtain ⟨b1, b2, b3, b4, n1, n2, n3, n4, T⟩ := hcut
    have cs := T.2.1.cell
    have cR := T.2.2.1.cell
    have fR := T.2.2.1.frozen
    go_wp2
    have hE := (((T.2.2.1.set_ 0 (.int .i64 b1)).set_ 1 (.int .i64 b2)).set_ 2 (.int .i64 b3)).set_ 3 (.int .i64 b4)
    simp at hE
    obtain ⟨k1, k2⟩ := T.fin4 (Nat.le_refl _) hlt (.int .i64 b1) (.int .i64 b2) (.int .i64 b3) (.int .i64 b4)
    refine bodyPost_ret (results_cell_row rfl _ _ w.heap.size _ _ _ _ rfl hE Tryd.underlying42 rfl (by kernel_rfl)) rfl ?_
    exact ⟨b1, b2, b3, b4, rfl, n1, n2, n3, n4, k1, k2⟩
end Go.Proofs.YtjijaejlcbailaaDoor
