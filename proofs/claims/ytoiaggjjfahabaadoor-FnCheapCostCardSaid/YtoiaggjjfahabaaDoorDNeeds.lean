/- What l20Needs returns: at most nine structs of small numbers in new memory; of memory only the reader's block changes. No condition. -/
import Derived.Test.YtoiaggjjfahabaaDoorQS
import Derived.Test.YtoiaggjjfahabaaDoorDNeed
import Derived.Deep.RegionLaw
namespace Go.Proofs.YtoiaggjjfahabaaDoor
open Go.RowKit
set_option linter.unusedVariables false
theorem infoNd : (Tryd.prog.info? 84).map (fun i => (i.zero, i.size, i.bytes)) = some (some (.agg #[.int .i64 0, .int .i64 0, .int .i64 0, .int .i64 0]), 4, 32) := by kernel_rfl
theorem make_need (n : Nat) (hn : n ≤ 1048576) (w : World) : (Instr.makeSlice 39 (.int .i64 (n : Int)) (.int .i64 (n : Int))).run Tryd.prog w = .ok (.slice (some ⟨w.heap.size, 0, none⟩) n n) (w.alloc (.cells (bks (List.replicate n q0)) 84)) := by
  obtain ⟨i, hi, hzz⟩ := Option.map_eq_some_iff.1 infoNd
  simp only [Prod.mk.injEq] at hzz
  obtain ⟨hz, hs, hb⟩ := hzz
  have hr := run_make (P := Tryd.prog) w 39 84 i _ Tryd.underlying39 hi hz .i64 .i64 n n (by omega) (Int.le_refl _) (by rw [hb]; omega) (by omega)
  simp only [Int.toNat_natCast, hs] at hr
  rw [← bks_made]
  exact hr
theorem infoN : (Tryd.prog.info? 84).map (fun i => (i.zero, i.size, i.bytes)) = some (some (.agg #[.int .i64 0, .int .i64 0, .int .i64 0, .int .i64 0]), 4, 32) := by kernel_rfl
theorem make6 (w : World) : (Instr.makeSlice 39 (.int .i64 6) (.int .i64 6)).run Tryd.prog w = .ok (.slice (some ⟨w.heap.size, 0, none⟩) 6 6) (w.alloc (.cells (bks (List.replicate 6 q0)) 84)) := make_need 6 (by omega) w
set_option maxRecDepth 100000 in
set_option maxHeartbeats 4000000 in
theorem needs_ok (r : Nat) (u : Int) (B : Nat) (w : World) (h : RB w r B) (hB : B ≤ 700000000) (hu : -1000000 ≤ u) (hu2 : u ≤ 1000000) :
    Calls Tryd.prog 93 #[.pointer (some ⟨r, 0, none⟩), .int .i64 u] w (RQ w r (B + 130)) := by
  have hlt := h.lt
  obtain ⟨i0, hi, ia, ib, ic⟩ := info_parts infoN
  have T : QS 84 w _ r B 0 _ 0 [] := QS.mk0 h (Stp.refl r w) hlt
  clear h
  go_enter Tryd.func93, Tryd.ntmps93
  go_wp2_with (go_at_call 50; ((with_reducible refine (pk r _ _ _ (QS.rb T) ?_ ?_ ?_).mono ?_); (omega); (omega); (omega); rintro e w1 ⟨x1, rfl, y1, z1, hr, hs⟩; replace T := T.step hr hs; clear hr hs))
  obtain ⟨k1, rfl⟩ := Int.eq_ofNat_of_zero_le y1
  go_loopw [5, 6] (fun v i wr => ∃ (qs : List Quad) (k n g c : Nat), i = .int .i64 k ∧ k ≤ 4 ∧ n + k ≤ 4 ∧ v = .slice (some ⟨g, 0, none⟩) n c ∧ QS 84 w wr r (B + 1 + 10 * (4 - k)) n g c qs) (fun _ i _ => (intOf i).toNat)
  case atStart => exact ⟨[], k1, 0, _, 0, rfl, by omega, by omega, rfl, T.le (by omega)⟩
  case round =>
    clear T y1 z1
    obtain ⟨qs, k, n, g, c, rfl, hk, hnk, rfl, T⟩ := hrel
    obtain ⟨wo, rfl⟩ : ∃ wo : World, wo = wr := ⟨_, rfl⟩
    by_cases hk0 : 0 < k
    · obtain ⟨k', rfl⟩ : ∃ k', k = k' + 1 := ⟨k - 1, by omega⟩
      go_wp2_with (first
        | (go_at_call 114; ((with_reducible refine (need_ok r 0 _ _ (QS.rb T) ?_ ?_ ?_).mono ?_); (omega); (omega); (omega); rintro e wb ⟨a, b, c', d, rfl, ha, hb, hc, hd, hr, hs⟩; replace T := T.step hr hs; clear hr hs))
        | (at_builtin; refine wpList_append_own _ rfl _ _ 39 rfl w.heap.size 84 i0 (.agg #[.int .i64 0, .int .i64 0, .int .i64 0, .int .i64 0]) 4 32 Tryd.underlying39 hi ia ib ic rfl (by decide) _ _ _ rfl (QS.own (QS.alloc T _)) ⟨wb.heap.size, 0, none⟩ 1 1 (Quad.cells ⟨a, b, c', d⟩) rfl rfl ?c1 ?c2 ?c3 ?c4 ?c5 ?_))
      case c1 => exact cells_newq wb _ ⟨a, b, c', d⟩
      case c2 => simp [Quad.cells, Value.oneCell']
      case c3 => unfold maxLen; omega
      case c4 => omega
      case c5 => have := T.2.1.2.1; simp; omega
      intro v' w1 hown1 hgrow _
      obtain ⟨g', c2, rfl, T'⟩ := T.app hown1 hgrow ⟨ha, hb, hc, hd⟩
      clear hown1 hgrow
      go_wp2
      go_roundw
      case rel => exact ⟨qs ++ [⟨a, b, c', d⟩], k', n + 1, g', c2, by go_num, by omega, by omega, rfl, T'.le (by omega)⟩
      case measure => simp [intOf]
    · obtain rfl : k = 0 := by omega
      go_upto_if 21 with (go_at_call 101; ((with_reducible refine (od r u _ _ (QS.rb T) ?_ ?_ ?_).mono ?_); (omega); (omega); (omega); rintro e w5 ⟨o, rfl, _, hr, hs⟩; replace T := T.step hr hs; clear hr hs))
      cases o
      · go_wp2_with fail
        go_ret
        exact T.rq (by omega) (by omega)
      · go_upto_if 24 with (go_at_call 50; ((with_reducible refine (pk r _ _ _ (QS.rb T) ?_ ?_ ?_).mono ?_); (omega); (omega); (omega); rintro e w6 ⟨x6, rfl, y6, z6, hr, hs⟩; replace T := T.step hr hs; clear hr hs))
        by_cases hx0 : x6 = 0
        · have hb0 : (x6 == 0) = true := by simp [hx0]
          have hmk := make6
          clear hx0
          go_wp2_with fail
          go_ret
          exact ⟨_, 6, 6, List.replicate 6 q0, rfl, fun w2 hs => own_books (ownsRow_stp (w0 := w) (own_newq w6 w.heap.size 84 (List.replicate 6 q0) 6 (by simp) (by simp [maxLen]) T.2.1.2.1) hs hlt) (by simp), by omega, by omega, by simp [maxLen], fun q hq => by rw [List.eq_of_mem_replicate hq]; simp [SmQ, Sm, q0], (T.alloc _).1.le (by omega), (T.alloc _).2.1⟩
        · have hb0 : (x6 == 0) = false := by simp [hx0]
          clear hx0
          go_wp2_with (first
            | (go_at_call 114; ((with_reducible refine (need_ok r 1 _ _ (QS.rb T) ?_ ?_ ?_).mono ?_); (omega); (omega); (omega); rintro e wb ⟨a, b, c', d, rfl, ha, hb, hc, hd, hr, hs⟩; replace T := T.step hr hs; clear hr hs))
            | (at_builtin; refine wpList_append_own _ rfl _ _ 39 rfl w.heap.size 84 i0 (.agg #[.int .i64 0, .int .i64 0, .int .i64 0, .int .i64 0]) 4 32 Tryd.underlying39 hi ia ib ic rfl (by decide) _ _ _ rfl (QS.own (QS.alloc T _)) ⟨wb.heap.size, 0, none⟩ 1 1 (Quad.cells ⟨a, b, c', d⟩) rfl rfl ?c1 ?c2 ?c3 ?c4 ?c5 ?_))
          case c1 => exact cells_newq wb _ ⟨a, b, c', d⟩
          case c2 => simp [Quad.cells, Value.oneCell']
          case c3 => unfold maxLen; omega
          case c4 => omega
          case c5 => have := T.2.1.2.1; simp; omega
          intro v' w1 hown1 hgrow _
          obtain ⟨g', c2, rfl, T'⟩ := T.app hown1 hgrow ⟨ha, hb, hc, hd⟩
          clear hown1 hgrow
          go_wp2
          go_ret
          exact T'.rq (by omega) (by omega)
end Go.Proofs.YtoiaggjjfahabaaDoor
