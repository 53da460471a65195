/- What l20Need returns is small; of memory only the reader's block changes. No condition. -/
import Derived.Test.YtoiaggjjfahabaaDoorRB
namespace Go.Proofs.YtoiaggjjfahabaaDoor
open Go.RowKit
set_option linter.unusedVariables false
set_option maxRecDepth 100000 in
set_option maxHeartbeats 2000000 in
theorem need_ok (r : Nat) (m : Int) (B : Nat) (w : World) (h : RB w r B) (hB : B ≤ 800000000) (hm : -1000000 ≤ m) (hm2 : m ≤ 1000000) :
    Calls Tryd.prog 114 #[.pointer (some ⟨r, 0, none⟩), .int .i64 m] w (R4 w r (B + 10)) := by
  have hlt := h.lt
  have H0 := Lib.hid (h.alloc (.cells #[.int .i64 0, .int .i64 0, .int .i64 0, .int .i64 0] 84))
  clear h
  go_enter Tryd.func114, Tryd.ntmps114
  go_upto_region 2 with (go_at_call 50; first
    | (refine (pk r _ _ _ H0.out (by omega) (by omega) (by omega)).mono ?_; rintro e w1 ⟨x1, rfl, y1, z1, hr, s1⟩; have H1 := Lib.hid hr; clear hr H0)
    | (refine (pk r _ _ _ H1.out (by omega) (by omega) (by omega)).mono ?_; rintro e w3 ⟨x2, rfl, y2, z2, hr, s3⟩; have H3 := Lib.hid hr; clear hr H1)
    | (refine (pk r _ _ _ H3.out (by omega) (by omega) (by omega)).mono ?_; rintro e w4 ⟨x3, rfl, y3, z3, hr, s4⟩; have H4 := Lib.hid hr; clear hr H3))
  have hlt4 := H4.out.lt
  have s34 := (s1.trans s3).trans s4
  have hR := s34.blk (Blk.new w 84 #[.int .i64 0, .int .i64 0, .int .i64 0, .int .i64 0]) (by omega)
  have hRlt := hR.lt
  have T : St w (w4.alloc (.cells #[.int .i64 x1, .int .i64 0, .int .i64 (1 + x2), .int .i64 (1 + x3)] 84)) r (B + 3) w4.heap.size w.heap.size 84 #[.int .i64 x1, .int .i64 0, .int .i64 (1 + x2), .int .i64 (1 + x3)] #[.int .i64 0, .int .i64 0, .int .i64 0, .int .i64 0] :=
    ⟨H4.out.alloc _, Blk.new _ _ _, hR.alloc _, ((Stp.of_below ((Below.refl _ _).alloc (Nat.le_refl _) _) (Nat.le_of_lt hlt)).trans s34).trans (Stp.of_below ((Below.refl _ _).alloc (Nat.le_refl _) _) (Nat.le_of_lt hlt4))⟩
  have m1 : Sm x1 := by unfold Sm; omega
  have m2 : Sm (1 + x2) := by unfold Sm; omega
  have m4 : Sm (1 + x3) := by unfold Sm; omega
  have x1a : x1 < 6 := by omega
  generalize 1 + x2 = X2 at *
  generalize 1 + x3 = X3 at *
  clear hR s1 s3 s4 s34 H4
  generalize w4.alloc (.cells #[.int .i64 x1, .int .i64 0, .int .i64 X2, .int .i64 X3] 84) = W at *
  generalize w4.heap.size = s at *
  go_cut [] (fun wx => ∃ c, 0 ≤ c ∧ c ≤ 100 ∧ St w wx r (B + 4) s w.heap.size 84 #[.int .i64 x1, .int .i64 c, .int .i64 X2, .int .i64 X3] #[.int .i64 0, .int .i64 0, .int .i64 0, .int .i64 0])
  case first =>
    have q0 := T.2.1.cell 0
    simp at q0
    have u1 : IntKind.i64.wrap (6 - x1) = 6 - x1 := IntWalk.i64_in _ (by omega)
    have u2 : IntKind.i64.wrap (x1 + 1) = x1 + 1 := IntWalk.i64_in _ (by omega)
    go_region_with (go_at_call 50; ((with_reducible refine (pk r _ _ _ (St.rb (St.drew T)) ?_ ?_ ?_).mono ?_); (omega); (omega); (omega); rintro e w6 ⟨x6, rfl, y6, z6, hr, hs⟩; replace T := T.drew.step hr hs (by omega) (by omega); have q1 := T.2.1.cell 0; have q2 := T.2.1.cell 1; have f2 := T.2.1.frozen 1; simp at q1 q2; clear hr hs q0))
    all_goals (
      have e : IntKind.i64.wrap (IntKind.i64.wrap (x1 + 1) + x6) = x1 + 1 + x6 := by rw [IntWalk.i64_in (x1 + 1) (by omega), IntWalk.i64_in _ (by omega)]
      have e' : IntKind.i64.wrap (x1 + 1 + x6) = x1 + 1 + x6 := IntWalk.i64_in _ (by omega)
      have E := Lib.hid e
      have E' := Lib.hid e'
      clear e e' u1 u2
      go_wp2_with fail
      go_meet
      have h' := T.set (by omega) (by omega) (by omega) 1 (.int .i64 (x1 + 1 + x6))
      first | rw [E.out] | rw [E'.out] | skip
      exact ⟨x1 + 1 + x6, by omega, by omega, by simpa using h'⟩)
  case rest =>
    obtain ⟨a3, v1, v2, T⟩ := hcut
    have g1 : Sm x1 := m1
    have g2 : Sm a3 := by unfold Sm; omega
    have g3 : Sm X2 := m2
    have g4 : Sm X3 := m4
    clear x1a y1 z1 y2 z2 y3 z3 v1 v2 m1 m2 m4
    go_upto_if 27 with (go_at_call 101; ((with_reducible refine (od r m _ _ (St.rb T) ?_ ?_ ?_).mono ?_); (omega); (omega); (omega); rintro e w5 ⟨o, rfl, hodd, hr, hs⟩; clear hodd; replace T := T.step hr hs (by omega) (by omega); clear hr hs))
    go_cut [] (fun wx => T4 w wx r (B + 10) s w.heap.size 84)
    case first =>
      have cs := T.2.1.cell
      have fs := T.2.1.frozen
      go_wp2_with (first
        | (go_at_call 50; ((with_reducible refine (pk r _ _ _ (St.rb T) ?_ ?_ ?_).mono ?_); (omega); (omega); (omega); rintro e w6 ⟨x6, rfl, y6, z6, hr, hs⟩; replace T := T.step hr hs (by omega) (by omega); clear hr hs cs fs; have cs := T.2.1.cell; have fs := T.2.1.frozen))
        | (go_at_call 50; ((with_reducible refine (pk2 T ?_ ?_ ?_ _ _ _).mono ?_); (omega); (omega); (omega); rintro e w7 ⟨x7, rfl, z7, c0, c1, hT⟩; replace T := hT; clear hT cs fs; have cs := T.2.1.cell; have fs := T.2.1.frozen; rcases z7 with rfl | rfl)))
      case' _ =>
        go_region_with (first
          | (go_at_call 50; ((with_reducible refine (pk r _ _ _ (St.rb (St.drew T)) ?_ ?_ ?_).mono ?_); (omega); (omega); (omega); rintro e w7 ⟨x7, rfl, y7, z7, hr, hs⟩; have T' := T.drew.step hr hs (by omega) (by omega); clear hr hs cs fs; obtain ⟨z, hz, hx, hx'⟩ := two_at (Blk.new w7 3 #[.int .i64 x1, .int .i64 7]) y7 (by omega) g1 (by unfold Sm; omega); have cs := T'.2.1.cell; have fs := T'.2.1.frozen; have q2 := T'.2.1.cell 1; have f2 := T'.2.1.frozen 1; have q3 := (T'.2.1.alloc (.cells #[.int .i64 x1, .int .i64 7] 3)).cell 1; have f3 := (T'.2.1.alloc (.cells #[.int .i64 x1, .int .i64 7] 3)).frozen 1; simp at q2; simp at q3))
          | (go_at_call 50; ((with_reducible refine (pk r _ _ _ (St.rb (St.drew (St.alloc T (.cells #[.int .i64 x1, .int .i64 7] 3)))) ?_ ?_ ?_).mono ?_); (omega); (omega); (omega); rintro e w7 ⟨x7, rfl, y7, z7, hr, hs⟩; have T' := (T.alloc _).drew.step hr hs (by omega) (by omega); have hl6 := T.1.lt; obtain ⟨z, hz, hx, hx'⟩ := two_at (hs.blk (Blk.new w6 3 #[.int .i64 x1, .int .i64 7]).drew (by omega)) y7 (by omega) g1 (by unfold Sm; omega); clear hr hs cs fs; have cs := T'.2.1.cell; have fs := T'.2.1.frozen; have q2 := T'.2.1.cell 1; have f2 := T'.2.1.frozen 1; simp at q2)))
        all_goals (go_wp2_with fail; go_meet; first | exact T4.put T' (by omega) g1 g2 g3 g4 (by omega) (by omega) (by omega) _ hz 1 | exact T4.put (T'.alloc _) (by omega) g1 g2 g3 g4 (by omega) (by omega) (by omega) _ hz 1)
      all_goals (go_meet; first | exact T4.same T (by omega) g1 g2 g3 g4 | exact T4.put T (by omega) g1 g2 g3 g4 (by omega) (by omega) (by omega) _ (by unfold Sm; omega) _)
    case rest =>
      obtain ⟨b1, b2, b3, b4, n1, n2, n3, n4, T⟩ := hcut
      have cs := T.2.1.cell
      have cR := T.2.2.1.cell
      have fR := T.2.2.1.frozen
      go_wp2
      have hE := (((T.2.2.1.set_ 0 (.int .i64 b1)).set_ 1 (.int .i64 b2)).set_ 2 (.int .i64 b3)).set_ 3 (.int .i64 b4)
      simp at hE
      obtain ⟨k1, k2⟩ := T.fin4 (Nat.le_refl _) hlt (.int .i64 b1) (.int .i64 b2) (.int .i64 b3) (.int .i64 b4)
      refine bodyPost_ret (results_cell_row rfl _ _ w.heap.size _ _ _ _ rfl hE Tryd.underlying84 rfl (by kernel_rfl)) rfl ?_
      exact ⟨b1, b2, b3, b4, rfl, n1, n2, n3, n4, k1, k2⟩
end Go.Proofs.YtoiaggjjfahabaaDoor
