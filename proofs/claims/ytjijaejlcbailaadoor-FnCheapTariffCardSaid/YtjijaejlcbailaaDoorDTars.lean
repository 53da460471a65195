/- DrawCheapTariff: at most five tariffs of small numbers, and minutes. No condition. -/
import Derived.Test.YtjijaejlcbailaaDoorQS
import Derived.Test.YtjijaejlcbailaaDoorDTar
import Derived.Test.YtjijaejlcbailaaDoorDMin
import Derived.Test.YtjijaejlcbailaaDoorNews
import Derived.Test.YtjijaejlcbailaaDoorTQuad
import Derived.Deep.RegionLaw
namespace Go.Proofs.YtjijaejlcbailaaDoor
open Go.RowKit
set_option linter.unusedVariables false
set_option maxRecDepth 100000 in
set_option maxHeartbeats 2000000 in
theorem drawCheapTariff_ok (A : Option Addr) (n cap : Nat) (zs : List Int) (w : World) (h : Nums .u8 w A n cap zs) (hn : n ≤ 1048576) :
    Calls Tryd.prog 25 #[.slice A n cap] w fun e w' => ∃ B k c qs m, e = .returned (.tuple #[.slice B k c, .int .i64 m]) ∧ Books w' B k qs ∧ k ≤ 9 ∧ k ≤ c ∧ c ≤ maxLen ∧ Below w.heap.size w w' := by
  obtain ⟨i0, hi, ia, ib, ic⟩ := info_parts infoTariff
  go_enter Tryd.func25, Tryd.ntmps25
  go_wp2_with (first
    | (go_at_call 58; ((with_reducible refine (opN A n cap zs _ h hn).mono ?_); rintro e w1 ⟨rfl, hr, hb, hlt⟩; clear h; have T := QS.mk0 (t := 42) hr (Stp.refl _ w1) hlt; clear hr))
    | (go_at_call 66; ((with_reducible refine (pk _ _ _ _ (QS.rb T) ?_ ?_ ?_).mono ?_); (omega); (omega); (omega); rintro e w2 ⟨x1, rfl, y1, z1, hr, hs⟩; replace T := T.step hr hs; clear hr hs)))
  obtain ⟨k1, rfl⟩ := Int.eq_ofNat_of_zero_le y1
  go_loopw [5, 6] (fun v i wr => ∃ (qs : List Quad) (k n g c : Nat), i = .int .i64 k ∧ k ≤ 4 ∧ n + k ≤ 4 ∧ v = .slice (some ⟨g, 0, none⟩) n c ∧ QS 42 w1 wr w.heap.size (1 + 10 * (4 - k)) n g c qs) (fun _ i _ => (intOf i).toNat)
  case atStart => exact ⟨[], k1, 0, _, 0, rfl, by omega, by omega, rfl, T.le (by omega)⟩
  case round =>
    clear T y1 z1
    obtain ⟨qs, k, n, g, c, rfl, hk, hnk, rfl, T⟩ := hrel
    obtain ⟨wo, rfl⟩ : ∃ wo : World, wo = wr := ⟨_, rfl⟩
    by_cases hk0 : 0 < k
    · obtain ⟨k', rfl⟩ : ∃ k', k = k' + 1 := ⟨k - 1, by omega⟩
      go_wp2_with (first
        | (go_at_call 68; ((with_reducible refine (tariff_ok _ 20 _ _ (QS.rb T) ?_ ?_ ?_).mono ?_); (omega); (omega); (omega); rintro e wb ⟨a, b, c', d, rfl, ha, hb', hc, hd, hr, hs⟩; replace T := T.step hr hs; clear hr hs))
        | (at_builtin; refine wpList_append_own _ rfl _ _ 36 rfl w1.heap.size 42 i0 (.agg #[.int .i64 0, .int .i64 0, .int .i64 0, .int .i64 0]) 4 32 Tryd.underlying36 hi ia ib ic rfl (by decide) _ _ _ rfl (QS.own (QS.alloc T _)) ⟨wb.heap.size, 0, none⟩ 1 1 (Quad.cells ⟨a, b, c', d⟩) rfl rfl ?c1 ?c2 ?c3 ?c4 ?c5 ?_))
      case c1 => exact cells_newq wb _ ⟨a, b, c', d⟩
      case c2 => simp [Quad.cells, Value.oneCell']
      case c3 => unfold maxLen; omega
      case c4 => omega
      case c5 => have := T.2.1.2.1; simp; omega
      intro v' w3 hown1 hgrow _
      obtain ⟨g', c2, rfl, T'⟩ := T.app hown1 hgrow ⟨ha, hb', hc, hd⟩
      clear hown1 hgrow
      go_wp2
      go_roundw
      case rel => exact ⟨qs ++ [⟨a, b, c', d⟩], k', n + 1, g', c2, by go_num, by omega, by omega, rfl, T'.le (by omega)⟩
      case measure => simp [intOf]
    · obtain rfl : k = 0 := by omega
      go_wp2_with (go_at_call 69; ((with_reducible refine (minutes_ok _ _ _ (QS.rb T) ?_).mono ?_); (omega); rintro e w5 ⟨m, rfl, hm, hr, hs⟩; replace T := T.step hr hs; clear hr hs))
      have hB := own_books T.own T.2.2.2.2.1
      have hgc := T.2.2.2.2.2.2
      refine bodyPost_ret (v := .tuple #[.slice (some ⟨g, 0, none⟩) n c, .int .i64 m]) (by simp [results, Tryd.results25, go_sem]) rfl ?_
      exact ⟨_, n, c, qs, m, rfl, hB, by omega, hgc.2.1, hgc.2.2, hb.trans T.2.1.1⟩
end Go.Proofs.YtjijaejlcbailaaDoor
