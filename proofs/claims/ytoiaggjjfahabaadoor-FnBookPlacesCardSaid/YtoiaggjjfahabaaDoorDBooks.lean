/- What l20Books returns: at most nine structs of small numbers in new memory; of memory only the reader's block changes. No condition. -/
import Derived.Test.YtoiaggjjfahabaaDoorQS
import Derived.Test.YtoiaggjjfahabaaDoorDBook
import Derived.Deep.RegionLaw
namespace Go.Proofs.YtoiaggjjfahabaaDoor
open Go.RowKit
set_option linter.unusedVariables false
theorem infoB : (Tryd.prog.info? 61).map (fun i => (i.zero, i.size, i.bytes)) = some (some (.agg #[.int .i64 0, .int .i64 0, .int .i64 0, .int .i64 0]), 4, 32) := by kernel_rfl
theorem make8 (w : World) : (Instr.makeSlice 55 (.int .i64 8) (.int .i64 8)).run Tryd.prog w = .ok (.slice (some ⟨w.heap.size, 0, none⟩) 8 8) (w.alloc (.cells (bks (List.replicate 8 q0)) 61)) := make_book 8 (by omega) w
set_option maxRecDepth 100000 in
set_option maxHeartbeats 4000000 in
theorem books_ok (r : Nat) (u : Int) (B : Nat) (w : World) (h : RB w r B) (hB : B ≤ 700000000) (hu : -1000000 ≤ u) (hu2 : u ≤ 1000000) :
    Calls Tryd.prog 71 #[.pointer (some ⟨r, 0, none⟩), .int .i64 u] w (RQ w r (B + 130)) := by
  have hlt := h.lt
  obtain ⟨i0, hi, ia, ib, ic⟩ := info_parts infoB
  have T : QS 61 w _ r B 0 _ 0 [] := QS.mk0 h (Stp.refl r w) hlt
  clear h
  go_enter Tryd.func71, Tryd.ntmps71
  go_wp2_with (go_at_call 50; ((with_reducible refine (pk r _ _ _ (QS.rb T) ?_ ?_ ?_).mono ?_); (omega); (omega); (omega); rintro e w1 ⟨x1, rfl, y1, z1, hr, hs⟩; replace T := T.step hr hs; clear hr hs))
  obtain ⟨k1, rfl⟩ := Int.eq_ofNat_of_zero_le y1
  go_loopw [5, 6] (fun v i wr => ∃ (qs : List Quad) (k n g c : Nat), i = .int .i64 k ∧ k ≤ 7 ∧ n + k ≤ 7 ∧ v = .slice (some ⟨g, 0, none⟩) n c ∧ QS 61 w wr r (B + 1 + 10 * (7 - k)) n g c qs) (fun _ i _ => (intOf i).toNat)
  case atStart => exact ⟨[], k1, 0, _, 0, rfl, by omega, by omega, rfl, T.le (by omega)⟩
  case round =>
    clear T y1 z1
    obtain ⟨qs, k, n, g, c, rfl, hk, hnk, rfl, T⟩ := hrel
    obtain ⟨wo, rfl⟩ : ∃ wo : World, wo = wr := ⟨_, rfl⟩
    by_cases hk0 : 0 < k
    · obtain ⟨k', rfl⟩ : ∃ k', k = k' + 1 := ⟨k - 1, by omega⟩
      go_wp2_with (first
        | (go_at_call 102; ((with_reducible refine (book_ok r _ 0 _ _ (QS.rb T) ?_ ?_ ?_ ?_).mono ?_); (omega); (unfold Sm; omega); (omega); (omega); rintro e wb ⟨a, b, c', d, rfl, ha, hb, hc, hd, hr, hs⟩; replace T := T.step hr hs; clear hr hs))
        | (at_builtin; refine wpList_append_own _ rfl _ _ 55 rfl w.heap.size 61 i0 (.agg #[.int .i64 0, .int .i64 0, .int .i64 0, .int .i64 0]) 4 32 Tryd.underlying55 hi ia ib ic rfl (by decide) _ _ _ rfl (QS.own (QS.alloc T _)) ⟨wb.heap.size, 0, none⟩ 1 1 (Quad.cells ⟨a, b, c', d⟩) rfl rfl ?c1 ?c2 ?c3 ?c4 ?c5 ?_))
      case c1 => exact cells_newq wb _ ⟨a, b, c', d⟩
      case c2 => simp [Quad.cells, Value.oneCell']
      case c3 => unfold maxLen; omega
      case c4 => omega
      case c5 => have := T.2.1.2.1; simp; omega
      intro v' w1 hown1 hgrow _
      obtain ⟨g', c2, rfl, T'⟩ := T.app hown1 hgrow ⟨ha, hb, hc, hd⟩
      clear hown1 hgrow
      go_wp2
      go_roundw
      case rel => exact ⟨qs ++ [⟨a, b, c', d⟩], k', n + 1, g', c2, by go_num, by omega, by omega, rfl, T'.le (by omega)⟩
      case measure => simp [intOf]
    · obtain rfl : k = 0 := by omega
      go_upto_if 25 with (go_at_call 101; ((with_reducible refine (od r u _ _ (QS.rb T) ?_ ?_ ?_).mono ?_); (omega); (omega); (omega); rintro e w5 ⟨o, rfl, _, hr, hs⟩; replace T := T.step hr hs; clear hr hs))
      cases o
      · go_wp2_with fail
        go_ret
        exact T.rq (by omega) (by omega)
      · go_upto_if 39 with (go_at_call 50; ((with_reducible refine (pk r _ _ _ (QS.rb T) ?_ ?_ ?_).mono ?_); (omega); (omega); (omega); rintro e w6 ⟨x6, rfl, y6, z6, hr, hs⟩; replace T := T.step hr hs; clear hr hs))
        by_cases hx0 : x6 = 0
        · have hb0 : (x6 == 0) = true := by simp [hx0]
          have hmk := make8
          clear hx0
          go_wp2_with fail
          go_ret
          exact ⟨_, 8, 8, List.replicate 8 q0, rfl, fun w2 hs => own_books (ownsRow_stp (w0 := w) (own_newq w6 w.heap.size 61 (List.replicate 8 q0) 8 (by simp) (by simp [maxLen]) T.2.1.2.1) hs hlt) (by simp), by omega, by omega, by simp [maxLen], fun q hq => by rw [List.eq_of_mem_replicate hq]; simp [SmQ, Sm, q0], (T.alloc _).1.le (by omega), (T.alloc _).2.1⟩
        · have hb0 : (x6 == 0) = false := by simp [hx0]
          by_cases hx1 : x6 = 1
          · have hb1 : (x6 == 1) = true := by simp [hx1]
            clear hx0 hx1
            go_wp2_with (first
              | (go_at_call 102; ((with_reducible refine (book_ok r _ 1 _ _ (QS.rb T) ?_ ?_ ?_ ?_).mono ?_); (omega); (unfold Sm; omega); (omega); (omega); rintro e wb ⟨a, b, c', d, rfl, ha, hb, hc, hd, hr, hs⟩; replace T := T.step hr hs; clear hr hs))
              | (at_builtin; refine wpList_append_own _ rfl _ _ 55 rfl w.heap.size 61 i0 (.agg #[.int .i64 0, .int .i64 0, .int .i64 0, .int .i64 0]) 4 32 Tryd.underlying55 hi ia ib ic rfl (by decide) _ _ _ rfl (own_newq wb w.heap.size 61 [⟨a, b, c', d⟩] 1 rfl (by simp [maxLen]) T.2.1.2.1) ⟨g, 0, none⟩ n c (qs.flatMap Quad.cells) rfl ?c0 ?c1 ?c2 ?c3 ?c4 ?c5 ?_))
            case c0 => rw [len_cells, T.2.2.2.2.1]
            case c1 => exact fun j u hj => (QS.alloc T _).own.cells rfl j u hj
            case c2 => exact one_cells qs
            case c3 => unfold maxLen; omega
            case c4 => omega
            case c5 => have := T.2.1.2.1; simp; omega
            intro v' w1 hown1 hgrow _
            obtain ⟨g', c2, rfl, hR⟩ := RQ.grown (ps := ⟨a, b, c', d⟩ :: qs) (B' := B + 130) T (by simpa using hown1) hgrow rfl (by omega) (by omega) (by simp [T.2.2.2.2.1]; omega) (fun q hq => (List.mem_cons.mp hq).elim (fun e => by rw [e]; exact ⟨ha, hb, hc, hd⟩) (T.2.2.2.2.2.1 q)) (by omega)
            have HR := Lib.hid hR
            clear hown1 hgrow hR
            go_wp2
            go_ret
            exact HR.out
          · have hb1 : (x6 == 1) = false := by simp [hx1]
            clear hx0 hx1
            have hcn := T.2.2.2.2.2.2.2.1
            have hcm := T.2.2.2.2.2.2.2.2
            unfold maxLen at hcm
            go_upto_region 8 with fail
            by_cases hn3 : 3 ≤ n
            · have hcase : (n = 3 ∨ n = 4 ∨ n = 5 ∨ n = 6 ∨ n = 7) := by omega
              clear hn3
              rcases hcase with rfl | rfl | rfl | rfl | rfl
              · have hc2 : ¬ c = 2 := by omega
                go_region_held3 (fun _ => True) (trivial) (first | (go_at_call 102; ((with_reducible refine (book_ok r 2 0 _ _ (QS.rb (QS.drew T)) ?_ ?_ ?_ ?_).mono ?_); (omega); (unfold Sm; omega); (omega); (omega); rintro e wb ⟨a, b, c', d, rfl, ha, hb, hc, hd, hr, hs⟩; replace T := T.drew.step hr hs; clear hr hs)) | (go_at_call 102; ((with_reducible refine (book_ok r 2 0 _ _ (QS.rb T) ?_ ?_ ?_ ?_).mono ?_); (omega); (unfold Sm; omega); (omega); (omega); rintro e wd ⟨a2, b2, c2, d2, rfl, ha2, hb2, hc2, hd2, hr, hs⟩; replace T := T.step hr hs; clear hr hs)) | (refine step_append_own rfl _ _ 55 rfl w.heap.size 61 i0 (.agg #[.int .i64 0, .int .i64 0, .int .i64 0, .int .i64 0]) 4 32 Tryd.underlying55 hi ia ib ic rfl (by decide) _ _ _ rfl (own_newq wd w.heap.size 61 [⟨a, b, c', d⟩, ⟨a2, b2, c2, d2⟩] 2 rfl (by simp [maxLen]) T.2.1.2.1) _ _ _ ((qs.drop 2).flatMap Quad.cells) rfl ?_ ?_ ?_ ?_ ?_ ?_ ?_; (have e := len_cells (qs.drop 2); rw [List.length_drop, T.2.2.2.2.1] at e; omega); (exact own_tail (QS.own (QS.alloc T _)) 2); (exact one_cells _); (unfold maxLen; omega); (omega); (have := T.2.1.2.1; simp; omega); (intro v' w1 hown1 hgrow _; have HO := Lib.hid hown1; have HG := Lib.hid hgrow; clear hown1 hgrow)))
                all_goals (
                  obtain ⟨g', c3, rfl, hR⟩ := RQ.grown (ps := ⟨a, b, c', d⟩ :: ⟨a2, b2, c2, d2⟩ :: qs.drop 2) (B' := B + 130) T (by simpa using HO.out) HG.out rfl (by omega) (by omega) (by simp [T.2.2.2.2.1] <;> omega) (fun q hq => by rcases List.mem_cons.mp hq with rfl | hq; exact ⟨ha, hb, hc, hd⟩; rcases List.mem_cons.mp hq with rfl | hq; exact ⟨ha2, hb2, hc2, hd2⟩; exact T.2.2.2.2.2.1 q (List.mem_of_mem_drop hq)) (by omega)
                  have HR := Lib.hid hR
                  clear HO HG hR
                  go_wp2_with fail
                  go_ret
                  exact HR.out)
              · have hc2 : ¬ c = 2 := by omega
                go_region_held3 (fun _ => True) (trivial) (first | (go_at_call 102; ((with_reducible refine (book_ok r 2 0 _ _ (QS.rb (QS.drew T)) ?_ ?_ ?_ ?_).mono ?_); (omega); (unfold Sm; omega); (omega); (omega); rintro e wb ⟨a, b, c', d, rfl, ha, hb, hc, hd, hr, hs⟩; replace T := T.drew.step hr hs; clear hr hs)) | (go_at_call 102; ((with_reducible refine (book_ok r 2 0 _ _ (QS.rb T) ?_ ?_ ?_ ?_).mono ?_); (omega); (unfold Sm; omega); (omega); (omega); rintro e wd ⟨a2, b2, c2, d2, rfl, ha2, hb2, hc2, hd2, hr, hs⟩; replace T := T.step hr hs; clear hr hs)) | (refine step_append_own rfl _ _ 55 rfl w.heap.size 61 i0 (.agg #[.int .i64 0, .int .i64 0, .int .i64 0, .int .i64 0]) 4 32 Tryd.underlying55 hi ia ib ic rfl (by decide) _ _ _ rfl (own_newq wd w.heap.size 61 [⟨a, b, c', d⟩, ⟨a2, b2, c2, d2⟩] 2 rfl (by simp [maxLen]) T.2.1.2.1) _ _ _ ((qs.drop 2).flatMap Quad.cells) rfl ?_ ?_ ?_ ?_ ?_ ?_ ?_; (have e := len_cells (qs.drop 2); rw [List.length_drop, T.2.2.2.2.1] at e; omega); (exact own_tail (QS.own (QS.alloc T _)) 2); (exact one_cells _); (unfold maxLen; omega); (omega); (have := T.2.1.2.1; simp; omega); (intro v' w1 hown1 hgrow _; have HO := Lib.hid hown1; have HG := Lib.hid hgrow; clear hown1 hgrow)))
                all_goals (
                  obtain ⟨g', c3, rfl, hR⟩ := RQ.grown (ps := ⟨a, b, c', d⟩ :: ⟨a2, b2, c2, d2⟩ :: qs.drop 2) (B' := B + 130) T (by simpa using HO.out) HG.out rfl (by omega) (by omega) (by simp [T.2.2.2.2.1] <;> omega) (fun q hq => by rcases List.mem_cons.mp hq with rfl | hq; exact ⟨ha, hb, hc, hd⟩; rcases List.mem_cons.mp hq with rfl | hq; exact ⟨ha2, hb2, hc2, hd2⟩; exact T.2.2.2.2.2.1 q (List.mem_of_mem_drop hq)) (by omega)
                  have HR := Lib.hid hR
                  clear HO HG hR
                  go_wp2_with fail
                  go_ret
                  exact HR.out)
              · have hc2 : ¬ c = 2 := by omega
                go_region_held3 (fun _ => True) (trivial) (first | (go_at_call 102; ((with_reducible refine (book_ok r 2 0 _ _ (QS.rb (QS.drew T)) ?_ ?_ ?_ ?_).mono ?_); (omega); (unfold Sm; omega); (omega); (omega); rintro e wb ⟨a, b, c', d, rfl, ha, hb, hc, hd, hr, hs⟩; replace T := T.drew.step hr hs; clear hr hs)) | (go_at_call 102; ((with_reducible refine (book_ok r 2 0 _ _ (QS.rb T) ?_ ?_ ?_ ?_).mono ?_); (omega); (unfold Sm; omega); (omega); (omega); rintro e wd ⟨a2, b2, c2, d2, rfl, ha2, hb2, hc2, hd2, hr, hs⟩; replace T := T.step hr hs; clear hr hs)) | (refine step_append_own rfl _ _ 55 rfl w.heap.size 61 i0 (.agg #[.int .i64 0, .int .i64 0, .int .i64 0, .int .i64 0]) 4 32 Tryd.underlying55 hi ia ib ic rfl (by decide) _ _ _ rfl (own_newq wd w.heap.size 61 [⟨a, b, c', d⟩, ⟨a2, b2, c2, d2⟩] 2 rfl (by simp [maxLen]) T.2.1.2.1) _ _ _ ((qs.drop 2).flatMap Quad.cells) rfl ?_ ?_ ?_ ?_ ?_ ?_ ?_; (have e := len_cells (qs.drop 2); rw [List.length_drop, T.2.2.2.2.1] at e; omega); (exact own_tail (QS.own (QS.alloc T _)) 2); (exact one_cells _); (unfold maxLen; omega); (omega); (have := T.2.1.2.1; simp; omega); (intro v' w1 hown1 hgrow _; have HO := Lib.hid hown1; have HG := Lib.hid hgrow; clear hown1 hgrow)))
                all_goals (
                  obtain ⟨g', c3, rfl, hR⟩ := RQ.grown (ps := ⟨a, b, c', d⟩ :: ⟨a2, b2, c2, d2⟩ :: qs.drop 2) (B' := B + 130) T (by simpa using HO.out) HG.out rfl (by omega) (by omega) (by simp [T.2.2.2.2.1] <;> omega) (fun q hq => by rcases List.mem_cons.mp hq with rfl | hq; exact ⟨ha, hb, hc, hd⟩; rcases List.mem_cons.mp hq with rfl | hq; exact ⟨ha2, hb2, hc2, hd2⟩; exact T.2.2.2.2.2.1 q (List.mem_of_mem_drop hq)) (by omega)
                  have HR := Lib.hid hR
                  clear HO HG hR
                  go_wp2_with fail
                  go_ret
                  exact HR.out)
              · have hc2 : ¬ c = 2 := by omega
                go_region_held3 (fun _ => True) (trivial) (first | (go_at_call 102; ((with_reducible refine (book_ok r 2 0 _ _ (QS.rb (QS.drew T)) ?_ ?_ ?_ ?_).mono ?_); (omega); (unfold Sm; omega); (omega); (omega); rintro e wb ⟨a, b, c', d, rfl, ha, hb, hc, hd, hr, hs⟩; replace T := T.drew.step hr hs; clear hr hs)) | (go_at_call 102; ((with_reducible refine (book_ok r 2 0 _ _ (QS.rb T) ?_ ?_ ?_ ?_).mono ?_); (omega); (unfold Sm; omega); (omega); (omega); rintro e wd ⟨a2, b2, c2, d2, rfl, ha2, hb2, hc2, hd2, hr, hs⟩; replace T := T.step hr hs; clear hr hs)) | (refine step_append_own rfl _ _ 55 rfl w.heap.size 61 i0 (.agg #[.int .i64 0, .int .i64 0, .int .i64 0, .int .i64 0]) 4 32 Tryd.underlying55 hi ia ib ic rfl (by decide) _ _ _ rfl (own_newq wd w.heap.size 61 [⟨a, b, c', d⟩, ⟨a2, b2, c2, d2⟩] 2 rfl (by simp [maxLen]) T.2.1.2.1) _ _ _ ((qs.drop 2).flatMap Quad.cells) rfl ?_ ?_ ?_ ?_ ?_ ?_ ?_; (have e := len_cells (qs.drop 2); rw [List.length_drop, T.2.2.2.2.1] at e; omega); (exact own_tail (QS.own (QS.alloc T _)) 2); (exact one_cells _); (unfold maxLen; omega); (omega); (have := T.2.1.2.1; simp; omega); (intro v' w1 hown1 hgrow _; have HO := Lib.hid hown1; have HG := Lib.hid hgrow; clear hown1 hgrow)))
                all_goals (
                  obtain ⟨g', c3, rfl, hR⟩ := RQ.grown (ps := ⟨a, b, c', d⟩ :: ⟨a2, b2, c2, d2⟩ :: qs.drop 2) (B' := B + 130) T (by simpa using HO.out) HG.out rfl (by omega) (by omega) (by simp [T.2.2.2.2.1] <;> omega) (fun q hq => by rcases List.mem_cons.mp hq with rfl | hq; exact ⟨ha, hb, hc, hd⟩; rcases List.mem_cons.mp hq with rfl | hq; exact ⟨ha2, hb2, hc2, hd2⟩; exact T.2.2.2.2.2.1 q (List.mem_of_mem_drop hq)) (by omega)
                  have HR := Lib.hid hR
                  clear HO HG hR
                  go_wp2_with fail
                  go_ret
                  exact HR.out)
              · have hc2 : ¬ c = 2 := by omega
                go_region_held3 (fun _ => True) (trivial) (first | (go_at_call 102; ((with_reducible refine (book_ok r 2 0 _ _ (QS.rb (QS.drew T)) ?_ ?_ ?_ ?_).mono ?_); (omega); (unfold Sm; omega); (omega); (omega); rintro e wb ⟨a, b, c', d, rfl, ha, hb, hc, hd, hr, hs⟩; replace T := T.drew.step hr hs; clear hr hs)) | (go_at_call 102; ((with_reducible refine (book_ok r 2 0 _ _ (QS.rb T) ?_ ?_ ?_ ?_).mono ?_); (omega); (unfold Sm; omega); (omega); (omega); rintro e wd ⟨a2, b2, c2, d2, rfl, ha2, hb2, hc2, hd2, hr, hs⟩; replace T := T.step hr hs; clear hr hs)) | (refine step_append_own rfl _ _ 55 rfl w.heap.size 61 i0 (.agg #[.int .i64 0, .int .i64 0, .int .i64 0, .int .i64 0]) 4 32 Tryd.underlying55 hi ia ib ic rfl (by decide) _ _ _ rfl (own_newq wd w.heap.size 61 [⟨a, b, c', d⟩, ⟨a2, b2, c2, d2⟩] 2 rfl (by simp [maxLen]) T.2.1.2.1) _ _ _ ((qs.drop 2).flatMap Quad.cells) rfl ?_ ?_ ?_ ?_ ?_ ?_ ?_; (have e := len_cells (qs.drop 2); rw [List.length_drop, T.2.2.2.2.1] at e; omega); (exact own_tail (QS.own (QS.alloc T _)) 2); (exact one_cells _); (unfold maxLen; omega); (omega); (have := T.2.1.2.1; simp; omega); (intro v' w1 hown1 hgrow _; have HO := Lib.hid hown1; have HG := Lib.hid hgrow; clear hown1 hgrow)))
                all_goals (
                  obtain ⟨g', c3, rfl, hR⟩ := RQ.grown (ps := ⟨a, b, c', d⟩ :: ⟨a2, b2, c2, d2⟩ :: qs.drop 2) (B' := B + 130) T (by simpa using HO.out) HG.out rfl (by omega) (by omega) (by simp [T.2.2.2.2.1] <;> omega) (fun q hq => by rcases List.mem_cons.mp hq with rfl | hq; exact ⟨ha, hb, hc, hd⟩; rcases List.mem_cons.mp hq with rfl | hq; exact ⟨ha2, hb2, hc2, hd2⟩; exact T.2.2.2.2.2.1 q (List.mem_of_mem_drop hq)) (by omega)
                  have HR := Lib.hid hR
                  clear HO HG hR
                  go_wp2_with fail
                  go_ret
                  exact HR.out)
            · clear hcn
              have hcn := T.2.2.2.2.2.2.2.1
              have hcase : (n = 0) ∨ (n = 1 ∧ c = 1) ∨ (n = 1 ∧ 1 < c) ∨ (n = 2 ∧ c = 2) ∨ (n = 2 ∧ 2 < c) := by omega
              clear hcn hn3 hcm
              rcases hcase with rfl | ⟨rfl, rfl⟩ | ⟨rfl, hlc⟩ | ⟨rfl, rfl⟩ | ⟨rfl, hlc⟩
              · (try (have hc1 : ¬ c = 1 := by omega)); (try (have hc2 : ¬ c = 2 := by omega))
                go_region_held3 (fun _ => True) (trivial) (first | (go_at_call 102; ((with_reducible refine (book_ok r 2 0 _ _ (QS.rb (QS.drew T)) ?_ ?_ ?_ ?_).mono ?_); (omega); (unfold Sm; omega); (omega); (omega); rintro e wb ⟨a, b, c', d, rfl, ha, hb, hc, hd, hr, hs⟩; replace T := T.drew.step hr hs; clear hr hs)) | (go_at_call 102; ((with_reducible refine (book_ok r 2 0 _ _ (QS.rb T) ?_ ?_ ?_ ?_).mono ?_); (omega); (unfold Sm; omega); (omega); (omega); rintro e wd ⟨a2, b2, c2, d2, rfl, ha2, hb2, hc2, hd2, hr, hs⟩; replace T := T.step hr hs; clear hr hs)) | (refine step_append_own rfl _ _ 55 rfl w.heap.size 61 i0 (.agg #[.int .i64 0, .int .i64 0, .int .i64 0, .int .i64 0]) 4 32 Tryd.underlying55 hi ia ib ic rfl (by decide) _ _ _ rfl (own_newq wd w.heap.size 61 [⟨a, b, c', d⟩, ⟨a2, b2, c2, d2⟩] 2 rfl (by simp [maxLen]) T.2.1.2.1) _ _ _ [] rfl ?_ ?_ ?_ ?_ ?_ ?_ ?_; (rfl); (exact fun j u hj => by simp at hj); (simp); (unfold maxLen; omega); (omega); (have := T.2.1.2.1; simp; omega); (intro v' w1 hown1 hgrow _; have HO := Lib.hid hown1; have HG := Lib.hid hgrow; clear hown1 hgrow)))
                all_goals (
                  obtain ⟨g', c3, rfl, hR⟩ := RQ.grown (ps := ⟨a, b, c', d⟩ :: ⟨a2, b2, c2, d2⟩ :: []) (B' := B + 130) T (by simpa using HO.out) HG.out rfl (by omega) (by omega) (by simp) (fun q hq => by rcases List.mem_cons.mp hq with rfl | hq; exact ⟨ha, hb, hc, hd⟩; rcases List.mem_cons.mp hq with rfl | hq; exact ⟨ha2, hb2, hc2, hd2⟩; simp at hq) (by omega)
                  have HR := Lib.hid hR
                  clear HO HG hR
                  go_wp2_with fail
                  go_ret
                  exact HR.out)
              · (try (have hc1 : ¬ c = 1 := by omega)); (try (have hc2 : ¬ c = 2 := by omega))
                go_region_held3 (fun _ => True) (trivial) (first | (go_at_call 102; ((with_reducible refine (book_ok r 2 0 _ _ (QS.rb (QS.drew T)) ?_ ?_ ?_ ?_).mono ?_); (omega); (unfold Sm; omega); (omega); (omega); rintro e wb ⟨a, b, c', d, rfl, ha, hb, hc, hd, hr, hs⟩; replace T := T.drew.step hr hs; clear hr hs)) | (go_at_call 102; ((with_reducible refine (book_ok r 2 0 _ _ (QS.rb T) ?_ ?_ ?_ ?_).mono ?_); (omega); (unfold Sm; omega); (omega); (omega); rintro e wd ⟨a2, b2, c2, d2, rfl, ha2, hb2, hc2, hd2, hr, hs⟩; replace T := T.step hr hs; clear hr hs)) | (refine step_append_own rfl _ _ 55 rfl w.heap.size 61 i0 (.agg #[.int .i64 0, .int .i64 0, .int .i64 0, .int .i64 0]) 4 32 Tryd.underlying55 hi ia ib ic rfl (by decide) _ _ _ rfl (own_newq wd w.heap.size 61 [⟨a, b, c', d⟩, ⟨a2, b2, c2, d2⟩] 2 rfl (by simp [maxLen]) T.2.1.2.1) _ _ _ [] rfl ?_ ?_ ?_ ?_ ?_ ?_ ?_; (rfl); (exact fun j u hj => by simp at hj); (simp); (unfold maxLen; omega); (omega); (have := T.2.1.2.1; simp; omega); (intro v' w1 hown1 hgrow _; have HO := Lib.hid hown1; have HG := Lib.hid hgrow; clear hown1 hgrow)))
                all_goals (
                  obtain ⟨g', c3, rfl, hR⟩ := RQ.grown (ps := ⟨a, b, c', d⟩ :: ⟨a2, b2, c2, d2⟩ :: []) (B' := B + 130) T (by simpa using HO.out) HG.out rfl (by omega) (by omega) (by simp) (fun q hq => by rcases List.mem_cons.mp hq with rfl | hq; exact ⟨ha, hb, hc, hd⟩; rcases List.mem_cons.mp hq with rfl | hq; exact ⟨ha2, hb2, hc2, hd2⟩; simp at hq) (by omega)
                  have HR := Lib.hid hR
                  clear HO HG hR
                  go_wp2_with fail
                  go_ret
                  exact HR.out)
              · (try (have hc1 : ¬ c = 1 := by omega)); (try (have hc2 : ¬ c = 2 := by omega))
                go_region_held3 (fun _ => True) (trivial) (first | (go_at_call 102; ((with_reducible refine (book_ok r 2 0 _ _ (QS.rb (QS.drew T)) ?_ ?_ ?_ ?_).mono ?_); (omega); (unfold Sm; omega); (omega); (omega); rintro e wb ⟨a, b, c', d, rfl, ha, hb, hc, hd, hr, hs⟩; replace T := T.drew.step hr hs; clear hr hs)) | (go_at_call 102; ((with_reducible refine (book_ok r 2 0 _ _ (QS.rb T) ?_ ?_ ?_ ?_).mono ?_); (omega); (unfold Sm; omega); (omega); (omega); rintro e wd ⟨a2, b2, c2, d2, rfl, ha2, hb2, hc2, hd2, hr, hs⟩; replace T := T.step hr hs; clear hr hs)) | (refine step_append_own rfl _ _ 55 rfl w.heap.size 61 i0 (.agg #[.int .i64 0, .int .i64 0, .int .i64 0, .int .i64 0]) 4 32 Tryd.underlying55 hi ia ib ic rfl (by decide) _ _ _ rfl (own_newq wd w.heap.size 61 [⟨a, b, c', d⟩, ⟨a2, b2, c2, d2⟩] 2 rfl (by simp [maxLen]) T.2.1.2.1) _ _ _ [] rfl ?_ ?_ ?_ ?_ ?_ ?_ ?_; (rfl); (exact fun j u hj => by simp at hj); (simp); (unfold maxLen; omega); (omega); (have := T.2.1.2.1; simp; omega); (intro v' w1 hown1 hgrow _; have HO := Lib.hid hown1; have HG := Lib.hid hgrow; clear hown1 hgrow)))
                all_goals (
                  obtain ⟨g', c3, rfl, hR⟩ := RQ.grown (ps := ⟨a, b, c', d⟩ :: ⟨a2, b2, c2, d2⟩ :: []) (B' := B + 130) T (by simpa using HO.out) HG.out rfl (by omega) (by omega) (by simp) (fun q hq => by rcases List.mem_cons.mp hq with rfl | hq; exact ⟨ha, hb, hc, hd⟩; rcases List.mem_cons.mp hq with rfl | hq; exact ⟨ha2, hb2, hc2, hd2⟩; simp at hq) (by omega)
                  have HR := Lib.hid hR
                  clear HO HG hR
                  go_wp2_with fail
                  go_ret
                  exact HR.out)
              · (try (have hc1 : ¬ c = 1 := by omega)); (try (have hc2 : ¬ c = 2 := by omega))
                go_region_held3 (fun _ => True) (trivial) (first | (go_at_call 102; ((with_reducible refine (book_ok r 2 0 _ _ (QS.rb (QS.drew T)) ?_ ?_ ?_ ?_).mono ?_); (omega); (unfold Sm; omega); (omega); (omega); rintro e wb ⟨a, b, c', d, rfl, ha, hb, hc, hd, hr, hs⟩; replace T := T.drew.step hr hs; clear hr hs)) | (go_at_call 102; ((with_reducible refine (book_ok r 2 0 _ _ (QS.rb T) ?_ ?_ ?_ ?_).mono ?_); (omega); (unfold Sm; omega); (omega); (omega); rintro e wd ⟨a2, b2, c2, d2, rfl, ha2, hb2, hc2, hd2, hr, hs⟩; replace T := T.step hr hs; clear hr hs)) | (refine step_append_own rfl _ _ 55 rfl w.heap.size 61 i0 (.agg #[.int .i64 0, .int .i64 0, .int .i64 0, .int .i64 0]) 4 32 Tryd.underlying55 hi ia ib ic rfl (by decide) _ _ _ rfl (own_newq wd w.heap.size 61 [⟨a, b, c', d⟩, ⟨a2, b2, c2, d2⟩] 2 rfl (by simp [maxLen]) T.2.1.2.1) _ _ _ [] rfl ?_ ?_ ?_ ?_ ?_ ?_ ?_; (rfl); (exact fun j u hj => by simp at hj); (simp); (unfold maxLen; omega); (omega); (have := T.2.1.2.1; simp; omega); (intro v' w1 hown1 hgrow _; have HO := Lib.hid hown1; have HG := Lib.hid hgrow; clear hown1 hgrow)))
                all_goals (
                  obtain ⟨g', c3, rfl, hR⟩ := RQ.grown (ps := ⟨a, b, c', d⟩ :: ⟨a2, b2, c2, d2⟩ :: []) (B' := B + 130) T (by simpa using HO.out) HG.out rfl (by omega) (by omega) (by simp) (fun q hq => by rcases List.mem_cons.mp hq with rfl | hq; exact ⟨ha, hb, hc, hd⟩; rcases List.mem_cons.mp hq with rfl | hq; exact ⟨ha2, hb2, hc2, hd2⟩; simp at hq) (by omega)
                  have HR := Lib.hid hR
                  clear HO HG hR
                  go_wp2_with fail
                  go_ret
                  exact HR.out)
              · (try (have hc1 : ¬ c = 1 := by omega)); (try (have hc2 : ¬ c = 2 := by omega))
                go_region_held3 (fun _ => True) (trivial) (first | (go_at_call 102; ((with_reducible refine (book_ok r 2 0 _ _ (QS.rb (QS.drew T)) ?_ ?_ ?_ ?_).mono ?_); (omega); (unfold Sm; omega); (omega); (omega); rintro e wb ⟨a, b, c', d, rfl, ha, hb, hc, hd, hr, hs⟩; replace T := T.drew.step hr hs; clear hr hs)) | (go_at_call 102; ((with_reducible refine (book_ok r 2 0 _ _ (QS.rb T) ?_ ?_ ?_ ?_).mono ?_); (omega); (unfold Sm; omega); (omega); (omega); rintro e wd ⟨a2, b2, c2, d2, rfl, ha2, hb2, hc2, hd2, hr, hs⟩; replace T := T.step hr hs; clear hr hs)) | (refine step_append_own rfl _ _ 55 rfl w.heap.size 61 i0 (.agg #[.int .i64 0, .int .i64 0, .int .i64 0, .int .i64 0]) 4 32 Tryd.underlying55 hi ia ib ic rfl (by decide) _ _ _ rfl (own_newq wd w.heap.size 61 [⟨a, b, c', d⟩, ⟨a2, b2, c2, d2⟩] 2 rfl (by simp [maxLen]) T.2.1.2.1) _ _ _ [] rfl ?_ ?_ ?_ ?_ ?_ ?_ ?_; (rfl); (exact fun j u hj => by simp at hj); (simp); (unfold maxLen; omega); (omega); (have := T.2.1.2.1; simp; omega); (intro v' w1 hown1 hgrow _; have HO := Lib.hid hown1; have HG := Lib.hid hgrow; clear hown1 hgrow)))
                all_goals (
                  obtain ⟨g', c3, rfl, hR⟩ := RQ.grown (ps := ⟨a, b, c', d⟩ :: ⟨a2, b2, c2, d2⟩ :: []) (B' := B + 130) T (by simpa using HO.out) HG.out rfl (by omega) (by omega) (by simp) (fun q hq => by rcases List.mem_cons.mp hq with rfl | hq; exact ⟨ha, hb, hc, hd⟩; rcases List.mem_cons.mp hq with rfl | hq; exact ⟨ha2, hb2, hc2, hd2⟩; simp at hq) (by omega)
                  have HR := Lib.hid hR
                  clear HO HG hR
                  go_wp2_with fail
                  go_ret
                  exact HR.out)
end Go.Proofs.YtoiaggjjfahabaaDoor
