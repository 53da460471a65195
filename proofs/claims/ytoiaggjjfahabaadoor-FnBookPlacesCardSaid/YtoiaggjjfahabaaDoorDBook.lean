/- What l20Book returns is bounded; of memory only the reader's block changes. No condition. -/
import Derived.Test.YtoiaggjjfahabaaDoorRB
namespace Go.Proofs.YtoiaggjjfahabaaDoor
open Go.RowKit
set_option linter.unusedVariables false
/-- what a drawn booking is that was not spoilt -/
def Gb (id a b c d : Int) : Prop := a = id ∧ 0 ≤ b ∧ b ≤ 13 ∧ b + 1 ≤ c ∧ c ≤ b + 8 ∧ 0 ≤ d ∧ d ≤ 19
def T4v (m id : Int) (w0 w : World) (r B s R : Nat) (t : TypeId) : Prop := ∃ a b c d, Sm a ∧ Sm b ∧ Sm c ∧ Sm d ∧ (m < 1 → Gb id a b c d) ∧ St w0 w r B s R t #[.int .i64 a, .int .i64 b, .int .i64 c, .int .i64 d] #[.int .i64 0, .int .i64 0, .int .i64 0, .int .i64 0]
def R4v (m id : Int) (w : World) (r B : Nat) (e : Ending) (w' : World) : Prop := ∃ a b c d, e = .returned (.agg #[.int .i64 a, .int .i64 b, .int .i64 c, .int .i64 d]) ∧ Sm a ∧ Sm b ∧ Sm c ∧ Sm d ∧ (m < 1 → Gb id a b c d) ∧ RB w' r B ∧ Stp r w w'
theorem T4v.of {m id : Int} {w w0 : World} {r B s R : Nat} {t : TypeId} (h : T4 w0 w r B s R t) (hm : ¬ m < 1) : T4v m id w0 w r B s R t := by
  obtain ⟨a, b, c, d, h1, h2, h3, h4, h5⟩ := h
  exact ⟨a, b, c, d, h1, h2, h3, h4, fun h => absurd h hm, h5⟩
set_option maxRecDepth 100000 in
set_option maxHeartbeats 2000000 in
theorem book_any (r : Nat) (id m : Int) (B : Nat) (w : World) (h : RB w r B) (hB : B ≤ 800000000) (hi : Sm id) (hm : -1000000 ≤ m) (hm2 : m ≤ 1000000) :
    Calls Tryd.prog 102 #[.pointer (some ⟨r, 0, none⟩), .int .i64 id, .int .i64 m] w (R4v m id w r (B + 10)) := by
  have hlt := h.lt
  have H0 := Lib.hid (h.alloc (.cells #[.int .i64 0, .int .i64 0, .int .i64 0, .int .i64 0] 61))
  clear h
  go_enter Tryd.func102, Tryd.ntmps102
  go_wp2_with (go_at_call 50; refine (pk r _ _ _ H0.out (by omega) (by omega) (by omega)).mono ?_; rintro e w1 ⟨x1, rfl, y1, z1, hr, s1⟩; have H1 := Lib.hid hr; clear hr H0)
  go_upto_region 2 with (go_at_call 50; refine (pk r _ _ _ H1.out (by omega) (by omega) (by omega)).mono ?_; rintro e w4 ⟨x2, rfl, y2, z2, hr, s4⟩; have H4 := Lib.hid hr; clear hr H1)
  have hlt4 := H4.out.lt
  have hR := (s1.trans s4).blk (Blk.new w 61 #[.int .i64 0, .int .i64 0, .int .i64 0, .int .i64 0]) (by omega)
  have hRlt := hR.lt
  have T : St w (w4.alloc (.cells #[.int .i64 id, .int .i64 x1, .int .i64 0, .int .i64 x2] 61)) r (B + 2) w4.heap.size w.heap.size 61 #[.int .i64 id, .int .i64 x1, .int .i64 0, .int .i64 x2] #[.int .i64 0, .int .i64 0, .int .i64 0, .int .i64 0] :=
    ⟨H4.out.alloc _, Blk.new _ _ _, hR.alloc _, ((Stp.of_below ((Below.refl _ _).alloc (Nat.le_refl _) _) (Nat.le_of_lt hlt)).trans (s1.trans s4)).trans (Stp.of_below ((Below.refl _ _).alloc (Nat.le_refl _) _) (Nat.le_of_lt hlt4))⟩
  have m1 : Sm x1 := by unfold Sm; omega
  have m2 : Sm x2 := by unfold Sm; omega
  have m3 : Sm 0 := by unfold Sm; omega
  have x1a : x1 < 14 := by omega
  clear hR s1 s4 H4
  generalize w4.alloc (.cells #[.int .i64 id, .int .i64 x1, .int .i64 0, .int .i64 x2] 61) = W at *
  generalize w4.heap.size = s at *
  go_cut [] (fun wx => ∃ c, x1 + 1 ≤ c ∧ c ≤ x1 + 8 ∧ St w wx r (B + 3) s w.heap.size 61 #[.int .i64 id, .int .i64 x1, .int .i64 c, .int .i64 x2] #[.int .i64 0, .int .i64 0, .int .i64 0, .int .i64 0])
  case first =>
    have q0 := T.2.1.cell 1
    simp at q0
    go_region_with (go_at_call 50; ((with_reducible refine (pk r _ _ _ (St.rb (St.drew T)) ?_ ?_ ?_).mono ?_); (omega); (omega); (omega); rintro e w6 ⟨x6, rfl, y6, z6, hr, hs⟩; replace T := T.drew.step hr hs (by omega) (by omega); have q1 := T.2.1.cell 1; have q2 := T.2.1.cell 2; have f2 := T.2.1.frozen 2; simp at q1 q2; clear hr hs q0))
    all_goals (
      have e : IntKind.i64.wrap (IntKind.i64.wrap (x1 + 1) + x6) = x1 + 1 + x6 := by rw [IntWalk.i64_in (x1 + 1) (by omega), IntWalk.i64_in _ (by omega)]
      have E := Lib.hid e
      clear e
      go_wp2_with fail
      go_meet
      have h' := T.set (by omega) (by omega) (by omega) 2 (.int .i64 (x1 + 1 + x6))
      rw [E.out]
      exact ⟨x1 + 1 + x6, by omega, by omega, by simpa using h'⟩)
  case rest =>
    obtain ⟨a3, v1, v2, T⟩ := hcut
    have g1 : Sm id := hi
    have g2 : Sm x1 := m1
    have g3 : Sm a3 := by unfold Sm; omega
    have g4 : Sm x2 := m2
    have hgd : Gb id id x1 a3 x2 := ⟨rfl, y1, by omega, v1, v2, y2, by omega⟩
    have HG := Lib.hid hgd
    clear hgd x1a hi y1 z1 y2 z2 v1 v2 m1 m2 m3
    go_upto_if 23 with (go_at_call 101; ((with_reducible refine (od r m _ _ (St.rb T) ?_ ?_ ?_).mono ?_); (omega); (omega); (omega); rintro e w5 ⟨o, rfl, hodd, hr, hs⟩; have HO := Lib.hid hodd; clear hodd; replace T := T.step hr hs (by omega) (by omega); clear hr hs))
    go_cut [] (fun wx => T4v m id w wx r (B + 10) s w.heap.size 61)
    case first =>
      have cs := T.2.1.cell
      have fs := T.2.1.frozen
      go_wp2_with (first
        | (go_at_call 50; ((with_reducible refine (pk r _ _ _ (St.rb T) ?_ ?_ ?_).mono ?_); (omega); (omega); (omega); rintro e w6 ⟨x6, rfl, y6, z6, hr, hs⟩; replace T := T.step hr hs (by omega) (by omega); clear hr hs cs fs; have cs := T.2.1.cell; have fs := T.2.1.frozen))
        | (go_at_call 50; ((with_reducible refine (pk2 T ?_ ?_ ?_ _ _ _).mono ?_); (omega); (omega); (omega); rintro e w7 ⟨x7, rfl, z7, c0, c1, hT⟩; replace T := hT; clear hT cs fs; have cs := T.2.1.cell; have fs := T.2.1.frozen; rcases z7 with rfl | rfl)))
      case' _ =>
        go_region_with (first
          | (go_at_call 50; ((with_reducible refine (pk r _ _ _ (St.rb (St.drew T)) ?_ ?_ ?_).mono ?_); (omega); (omega); (omega); rintro e w7 ⟨x7, rfl, y7, z7, hr, hs⟩; have T' := T.drew.step hr hs (by omega) (by omega); clear hr hs cs fs; obtain ⟨z, hz, hx, hx'⟩ := two_at (Blk.new w7 3 #[.int .i64 x1, .int .i64 31]) y7 (by omega) g2 (by unfold Sm; omega); have cs := T'.2.1.cell; have fs := T'.2.1.frozen; have q2 := T'.2.1.cell 2; have f2 := T'.2.1.frozen 2; have q3 := (T'.2.1.alloc (.cells #[.int .i64 x1, .int .i64 31] 3)).cell 2; have f3 := (T'.2.1.alloc (.cells #[.int .i64 x1, .int .i64 31] 3)).frozen 2; simp at q2; simp at q3))
          | (go_at_call 50; ((with_reducible refine (pk r _ _ _ (St.rb (St.drew (St.alloc T (.cells #[.int .i64 x1, .int .i64 31] 3)))) ?_ ?_ ?_).mono ?_); (omega); (omega); (omega); rintro e w7 ⟨x7, rfl, y7, z7, hr, hs⟩; have T' := (T.alloc _).drew.step hr hs (by omega) (by omega); have hl6 := T.1.lt; obtain ⟨z, hz, hx, hx'⟩ := two_at (hs.blk (Blk.new w6 3 #[.int .i64 x1, .int .i64 31]).drew (by omega)) y7 (by omega) g2 (by unfold Sm; omega); clear hr hs cs fs; have cs := T'.2.1.cell; have fs := T'.2.1.frozen; have q2 := T'.2.1.cell 2; have f2 := T'.2.1.frozen 2; simp at q2)))
        all_goals (go_wp2_with fail; go_meet; refine T4v.of ?_ (fun h => by have := HO.out h; simp_all); first | exact T4.put T' (by omega) g1 g2 g3 g4 (by omega) (by omega) (by omega) _ hz 2 | exact T4.put (T'.alloc _) (by omega) g1 g2 g3 g4 (by omega) (by omega) (by omega) _ hz 2)
      all_goals (go_meet; first | exact ⟨id, x1, a3, x2, g1, g2, g3, g4, fun _ => HG.out, T.le (by omega)⟩ | (refine T4v.of ?_ (fun h => by have := HO.out h; simp_all); exact T4.put T (by omega) g1 g2 g3 g4 (by omega) (by omega) (by omega) _ (by unfold Sm; omega) _))
    case rest =>
      obtain ⟨b1, b2, b3, b4, n1, n2, n3, n4, n5, T⟩ := hcut
      have N5 := Lib.hid n5
      clear n5
      have cs := T.2.1.cell
      have cR := T.2.2.1.cell
      have fR := T.2.2.1.frozen
      go_wp2
      have hE := (((T.2.2.1.set_ 0 (.int .i64 b1)).set_ 1 (.int .i64 b2)).set_ 2 (.int .i64 b3)).set_ 3 (.int .i64 b4)
      simp at hE
      obtain ⟨k1, k2⟩ := T.fin4 (Nat.le_refl _) hlt (.int .i64 b1) (.int .i64 b2) (.int .i64 b3) (.int .i64 b4)
      refine bodyPost_ret (results_cell_row rfl _ _ w.heap.size _ _ _ _ rfl hE Tryd.underlying61 rfl (by kernel_rfl)) rfl ?_
      exact ⟨b1, b2, b3, b4, rfl, n1, n2, n3, n4, N5.out, k1, k2⟩
theorem book_ok (r : Nat) (id m : Int) (B : Nat) (w : World) (h : RB w r B) (hB : B ≤ 800000000) (hi : Sm id) (hm : -1000000 ≤ m) (hm2 : m ≤ 1000000) :
    Calls Tryd.prog 102 #[.pointer (some ⟨r, 0, none⟩), .int .i64 id, .int .i64 m] w (R4 w r (B + 10)) :=
  (book_any r id m B w h hB hi hm hm2).mono fun e w' ⟨a, b, c, d, h1, h2, h3, h4, h5, _, h7, h8⟩ => ⟨a, b, c, d, h1, h2, h3, h4, h5, h7, h8⟩
theorem book_good (r : Nat) (id : Int) (B : Nat) (w : World) (h : RB w r B) (hB : B ≤ 800000000) (hi : Sm id) :
    Calls Tryd.prog 102 #[.pointer (some ⟨r, 0, none⟩), .int .i64 id, .int .i64 0] w fun e w' => ∃ b c d, e = .returned (.agg #[.int .i64 id, .int .i64 b, .int .i64 c, .int .i64 d]) ∧ 0 ≤ b ∧ b ≤ 13 ∧ b + 1 ≤ c ∧ c ≤ b + 8 ∧ 0 ≤ d ∧ d ≤ 19 ∧ RB w' r (B + 10) ∧ Stp r w w' :=
  (book_any r id 0 B w h hB hi (by omega) (by omega)).mono fun e w' ⟨a, b, c, d, h1, h2, h3, h4, h5, h6, h7, h8⟩ => by
    obtain ⟨rfl, g⟩ := h6 (by omega)
    exact ⟨b, c, d, h1, g.1, g.2.1, g.2.2.1, g.2.2.2.1, g.2.2.2.2.1, g.2.2.2.2.2, h7, h8⟩
end Go.Proofs.YtoiaggjjfahabaaDoor
