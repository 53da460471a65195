/- What l20Coins returns: at most seven small numbers in new memory; of memory only the reader's block changes. No condition. -/
import Derived.Test.YtoiaggjjfahabaaDoorLS
namespace Go.Proofs.YtoiaggjjfahabaaDoor
open Go.RowKit
set_option linter.unusedVariables false
set_option maxRecDepth 100000 in
set_option maxHeartbeats 4000000 in
theorem coins_ok (r : Nat) (u : Int) (B : Nat) (w : World) (h : RB w r B) (hB : B ≤ 800000000) (hu : -1000000 ≤ u) (hu2 : u ≤ 1000000) :
    Calls Tryd.prog 88 #[.pointer (some ⟨r, 0, none⟩), .int .i64 u] w (RI w r (B + 30)) := by
  have hlt := h.lt
  obtain ⟨i0, hi, ia, ib, ic⟩ := info_parts infoI
  have T := LS.mk1 h (Stp.refl r w) hlt 1 (by omega) (by omega)
  clear h
  go_enter Tryd.func88, Tryd.ntmps88
  go_upto_if 11 with (go_at_call 50; ((with_reducible refine (pk r _ _ _ (LS.rb T) ?_ ?_ ?_).mono ?_); (omega); (omega); (omega); rintro e w1 ⟨x1, rfl, y1, z1, hr, hs⟩; replace T := T.step hr hs; clear hr hs))
  go_cut [5] (fun v wx => ∃ g c z, v = .slice (some ⟨g, 0, none⟩) 1 c ∧ LS w wx r (B + 2) 0 g c [z])
  case first =>
    go_wp2_with (go_at_call 50; ((with_reducible refine (pk r _ _ _ (LS.rb T) ?_ ?_ ?_).mono ?_); (omega); (omega); (omega); rintro e w2 ⟨x2, rfl, y2, z2, hr, hs⟩; replace T := T.step hr hs; clear hr hs))
    · go_meet
      exact ⟨_, _, 2 + x2, rfl, LS.mk1 T.rb T.2.1 hlt _ (by omega) (by omega)⟩
    · go_meet
      exact ⟨_, _, 1, rfl, T.le (by omega)⟩
  case rest =>
    obtain ⟨g, c, z, rfl, T⟩ := hcut
    go_wp2_with (go_at_call 50; ((with_reducible refine (pk r _ _ _ (LS.rb T) ?_ ?_ ?_).mono ?_); (omega); (omega); (omega); rintro e w1 ⟨x1, rfl, y1, z1, hr, hs⟩; replace T := T.step hr hs; clear hr hs))
    obtain ⟨k1, rfl⟩ := Int.eq_ofNat_of_zero_le y1
    go_loopw [5, 6] (fun v i wr => ∃ (zs : List Int) (k m g c : Nat), i = .int .i64 k ∧ k ≤ 4 ∧ m + k ≤ 4 ∧ v = .slice (some ⟨g, 0, none⟩) (m + 1) c ∧ LS w wr r (B + 3 + 3 * (4 - k)) m g c zs) (fun _ i _ => (intOf i).toNat)
    case atStart => exact ⟨[z], k1, 0, g, c, rfl, by omega, by omega, rfl, T.le (by omega)⟩
    case round =>
      clear T y1 z1
      obtain ⟨zs, k, m, g, c, rfl, hk, hmk, rfl, T⟩ := hrel
      obtain ⟨wo, rfl⟩ : ∃ wo : World, wo = wr := ⟨_, rfl⟩
      have hgl := T.glt
      by_cases hk0 : 0 < k
      · obtain ⟨k', rfl⟩ : ∃ k', k = k' + 1 := ⟨k - 1, by omega⟩
        obtain ⟨z, hz1, hz2, hz3, hzc⟩ := T.at (k := m) (by omega)
        have HZ := Lib.hid hz3
        clear hz3
        go_upto_region 7 with fail
        go_cut [7] (fun s7 wx => ∃ x : Int, s7 = .int .i64 x ∧ 1 ≤ x ∧ x ≤ 1000 ∧ LS w wx r (B + 3 + 3 * (4 - (k' + 1)) + 1) m g c zs)
        case first =>
          have u1 : IntKind.i64.wrap (((m + 1 : Nat) : Int) - 1) = (m : Int) := by rw [show ((m + 1 : Nat) : Int) - 1 = (m : Int) by omega]; exact IntWalk.i64_in _ (by omega)
          have u2 : IntKind.i64.wrap ((m : Int) + 1 - 1) = (m : Int) := by rw [show (m : Int) + 1 - 1 = (m : Int) by omega]; exact IntWalk.i64_in _ (by omega)
          have u5 : IntKind.i64.wrap (m : Int) = (m : Int) := IntWalk.i64_in _ (by omega)
          have u3 : (0 : Int) ≤ (m : Int) := by omega
          have u4 : (m : Int) < ((m + 1 : Nat) : Int) := by omega
          go_region_with (go_at_call 50; ((with_reducible refine (pk r _ _ _ (LS.rb (LS.drew T)) ?_ ?_ ?_).mono ?_); (omega); (omega); (omega); rintro e w6 ⟨x6, rfl, y6, z6, hr, hs⟩; replace T := T.drew.step hr hs; clear hr hs hzc; have hzc := T.cell (by omega) HZ.out))
          all_goals (
            have e : IntKind.i64.wrap (IntKind.i64.wrap (z + 1) + x6) = z + 1 + x6 := by rw [IntWalk.i64_in (z + 1) (by omega), IntWalk.i64_in _ (by omega)]
            have E := Lib.hid e
            clear e
            go_wp2_with fail
            go_meet
            exact ⟨_, rfl, by rw [E.out]; omega, by rw [E.out]; omega, T⟩)
        case rest =>
          obtain ⟨x, rfl, hx0, hx1, T⟩ := hcut
          go_upto_if 34 with (go_at_call 50; ((with_reducible refine (pk r _ _ _ (LS.rb T) ?_ ?_ ?_).mono ?_); (omega); (omega); (omega); rintro e w6 ⟨x6, rfl, y6, z6, hr, hs⟩; replace T := T.step hr hs; clear hr hs hzc; have hzc := T.cell (by omega) HZ.out))
          go_cut [7] (fun s7 wx => ∃ x : Int, s7 = .int .i64 x ∧ 1 ≤ x ∧ x ≤ 1000 ∧ LS w wx r (B + 3 + 3 * (4 - (k' + 1)) + 3) m g c zs)
          case first =>
            go_wp2_with fail
            · have u1 : IntKind.i64.wrap (((m + 1 : Nat) : Int) - 1) = (m : Int) := by rw [show ((m + 1 : Nat) : Int) - 1 = (m : Int) by omega]; exact IntWalk.i64_in _ (by omega)
              have u2 : IntKind.i64.wrap ((m : Int) + 1 - 1) = (m : Int) := by rw [show (m : Int) + 1 - 1 = (m : Int) by omega]; exact IntWalk.i64_in _ (by omega)
              have u5 : IntKind.i64.wrap (m : Int) = (m : Int) := IntWalk.i64_in _ (by omega)
              have u3 : (0 : Int) ≤ (m : Int) := by omega
              have u4 : (m : Int) < ((m + 1 : Nat) : Int) := by omega
              have hze := (T.alloc (.cells #[.int .i64 2, .int .i64 5] 3)).cell (by omega) HZ.out
              go_region_with (first
                | (go_at_call 50; ((with_reducible refine (pk r _ _ _ (LS.rb (LS.drew T)) ?_ ?_ ?_).mono ?_); (omega); (omega); (omega); rintro e w7 ⟨x7, rfl, y7, z7, hr, hs⟩; have T' := T.drew.step hr hs; clear hr hs hzc; obtain ⟨q, hq, hx, hx'⟩ := two_of (Blk.new w7 3 #[.int .i64 2, .int .i64 5]) y7 (by omega); have hzc := T'.cell (by omega) HZ.out; have hzd := (T'.alloc (.cells #[.int .i64 2, .int .i64 5] 3)).cell (by omega) HZ.out))
                | (go_at_call 50; ((with_reducible refine (pk r _ _ _ (LS.rb (LS.drew (LS.alloc T (.cells #[.int .i64 2, .int .i64 5] 3)))) ?_ ?_ ?_).mono ?_); (omega); (omega); (omega); rintro e w7 ⟨x7, rfl, y7, z7, hr, hs⟩; have T' := (T.alloc _).drew.step hr hs; have hl6 := T.1.lt; obtain ⟨q, hq, hx, hx'⟩ := two_of (hs.blk (Blk.new w6 3 #[.int .i64 2, .int .i64 5]).drew (by omega)) y7 (by omega); clear hr hs hzc; have hzc := T'.cell (by omega) HZ.out)))
              all_goals (
                have e : IntKind.i64.wrap (z * q) = z * q ∧ 1 ≤ z * q ∧ z * q ≤ 1000 := by rcases hq with rfl | rfl <;> exact ⟨IntWalk.i64_in _ (by omega), by omega, by omega⟩
                have E := Lib.hid e
                clear e
                go_wp2_with fail
                go_meet
                first
                  | exact ⟨_, rfl, by rw [E.out.1]; exact E.out.2.1, by rw [E.out.1]; exact E.out.2.2, T'.le (by omega)⟩
                  | exact ⟨_, rfl, by rw [E.out.1]; exact E.out.2.1, by rw [E.out.1]; exact E.out.2.2, (T'.alloc _).le (by omega)⟩)
            · go_meet
              exact ⟨x, rfl, hx0, hx1, T.le (by omega)⟩
          case rest =>
            clear hzc hx0 hx1
            obtain ⟨x, rfl, hx0, hx1, T⟩ := hcut
            have hgl := T.glt
            by_cases hx : x ≤ 99
            · have hxb : decide (x ≤ 99) = true := by simpa using hx
              go_wp2_with (at_builtin; refine wpList_append_own _ rfl _ _ 28 rfl w.heap.size 3 i0 (.int .i64 0) 1 8 Tryd.underlying28 hi ia ib ic rfl (by decide) _ _ _ rfl (LS.own (LS.alloc T _)) ⟨wc.heap.size, 0, none⟩ 1 1 [.int .i64 x] rfl rfl ?c1 ?c2 ?c3 ?c4 ?c5 ?_)
              case c1 => exact cell_one_new _ _ _
              case c2 => simp [Value.oneCell']
              case c3 => unfold maxLen; omega
              case c4 => omega
              case c5 => have := T.2.1.2.1; simp; omega
              intro v' w1 hown1 hgrow _
              obtain ⟨g', c', rfl, T'⟩ := T.app hown1 hgrow (by omega)
              clear hown1 hgrow
              go_wp2
              go_roundw
              case rel => exact ⟨zs ++ [x], k', m + 1, g', c', by go_num, by omega, by omega, rfl, T'.le (by omega)⟩
              case measure => simp [intOf]
            · have hxb : decide (x ≤ 99) = false := by simpa using hx
              go_wp2
              go_roundw
              case rel => exact ⟨zs, k', m, g, c, by go_num, by omega, by omega, rfl, T.le (by omega)⟩
              case measure => simp [intOf]
      · obtain rfl : k = 0 := by omega
        obtain ⟨z, hz1, hz2, hz3, hzc⟩ := T.at (k := 0) (by omega)
        have HZ := Lib.hid hz3
        clear hz3
        go_upto_if 55 with (go_at_call 101; ((with_reducible refine (od r u _ _ (LS.rb T) ?_ ?_ ?_).mono ?_); (omega); (omega); (omega); rintro e w5 ⟨o, rfl, _, hr, hs⟩; replace T := T.step hr hs; clear hr hs hzc; have hzc := T.cell (by omega) HZ.out))
        cases o
        · go_wp2_with fail
          go_ret
          exact T.ri (by omega) (by omega)
        · go_upto_if 61 with (go_at_call 50; ((with_reducible refine (pk r _ _ _ (LS.rb T) ?_ ?_ ?_).mono ?_); (omega); (omega); (omega); rintro e w6 ⟨x6, rfl, y6, z6, hr, hs⟩; replace T := T.step hr hs; clear hr hs hzc; have hzc := T.cell (by omega) HZ.out))
          have hgl := T.glt
          by_cases hx0 : x6 = 0
          · have hb0 : (x6 == 0) = true := by simp [hx0]
            clear hx0
            go_wp2_with fail
            go_ret
            exact ⟨_, 0, 0, [], rfl, fun _ _ => ⟨rfl, fun h => absurd h (by omega)⟩, by omega, by omega, by simp [maxLen], by simp, (T.alloc _).1.le (by omega), (T.alloc _).2.1⟩
          · have hb0 : (x6 == 0) = false := by simp [hx0]
            by_cases hx1 : x6 = 1
            · have hb1 : (x6 == 1) = true := by simp [hx1]
              clear hx0 hx1
              go_wp2_with (at_builtin; refine wpList_append_own _ rfl _ _ 28 rfl w.heap.size 3 i0 (.int .i64 0) 1 8 Tryd.underlying28 hi ia ib ic rfl (by decide) _ _ _ rfl (LS.own (LS.alloc T _)) ⟨w6.heap.size, 0, none⟩ 1 1 [.int .i64 z] rfl rfl ?c1 ?c2 ?c3 ?c4 ?c5 ?_)
              case c1 => exact cell_one_new _ _ _
              case c2 => simp [Value.oneCell']
              case c3 => unfold maxLen; omega
              case c4 => omega
              case c5 => have := T.2.1.2.1; simp; omega
              intro v' w1 hown1 hgrow _
              obtain ⟨g', c', rfl, T'⟩ := T.app hown1 hgrow (by omega)
              clear hown1 hgrow
              go_wp2
              go_ret
              exact T'.ri (by omega) (by omega)
            · have hb1 : (x6 == 1) = false := by simp [hx1]
              clear hx0 hx1
              go_wp2_with (at_builtin; refine wpList_append_own _ rfl _ _ 28 rfl w.heap.size 3 i0 (.int .i64 0) 1 8 Tryd.underlying28 hi ia ib ic rfl (by decide) _ _ _ rfl (own_new1 w6 w.heap.size 3 (.int .i64 0) T.2.1.2.1) ⟨g, 0, none⟩ (m + 1) c (zs.map (Value.int .i64)) rfl ?c0 ?c1 ?c2 ?c3 ?c4 ?c5 ?_)
              case c0 => simp [T.2.2.2.2.1]
              case c1 => exact fun j u hj => (LS.alloc T _).own.cells rfl j u hj
              case c2 => simp [Value.oneCell']
              case c3 => unfold maxLen; omega
              case c4 => omega
              case c5 => have := T.2.1.2.1; simp; omega
              intro v' w1 hown1 hgrow _
              obtain ⟨g', c', rfl, e1, e2, e3, e4⟩ := own_at hown1 (by omega)
              have hrow : ∀ q, (Value.slice (some ⟨w6.heap.size, 0, none⟩) 1 1).ownBlock = some q → w.heap.size ≤ q := fun q hq => by have := T.2.1.2.1; simp [Value.ownBlock] at hq; omega
              have hI := fun (w2 : World) (hs : Stp r w1 w2) => own_ints1 (zs := 0 :: zs) (ownsRow_stp (w0 := w) (by simpa using hown1) hs hlt) (by simp [T.2.2.2.2.1]; omega)
              have kr := (T.alloc (.cells #[.int .i64 0] 3)).1.grown hgrow hlt (Nat.le_trans T.2.1.2.1 (by simp)) hrow
              have ks := (T.alloc (.cells #[.int .i64 0] 3)).2.1.grown hgrow (by omega) hrow
              have HI := Lib.hid hI
              clear hown1 hgrow hI hrow
              go_wp2
              go_ret
              exact ⟨_, _, _, 0 :: zs, rfl, HI.out, by omega, e3, e4, fun z hz => (List.mem_cons.mp hz).elim (fun e => by unfold Sm; omega) (fun h => by have := T.2.2.2.2.2 z h; unfold Sm; omega), kr.le (by omega), ks⟩
end Go.Proofs.YtoiaggjjfahabaaDoor
