/- The draw and the plain law for laws.FnChangeFrom. No condition. -/
import Derived.Test.YtoiaggjjfahabaaDoorLCFor
namespace Go.Proofs.YtoiaggjjfahabaaDoor
open Go.RowKit
set_option linter.unusedVariables false
def DCF (w : World) (B : Option Addr) (k c : Nat) (qs : List Int) (G : Option Addr) (d : Nat) (ys : List Int) (m : Int) (w' : World) : Prop :=
  Ints w' B k qs ∧ Ints w' G k ys ∧ k ≤ 9 ∧ k ≤ c ∧ c ≤ maxLen ∧ k ≤ d ∧ d ≤ maxLen ∧ (∀ z ∈ ys, Sm z) ∧ Sm m ∧ Below w.heap.size w w'
set_option maxRecDepth 100000 in
set_option maxHeartbeats 2000000 in
theorem drawChangeFrom_ok (A : Option Addr) (n cap : Nat) (zs : List Int) (w : World) (h : Nums .u8 w A n cap zs) (hn : n ≤ 1048576) :
    Calls Tryd.prog 15 #[.slice A n cap] w fun e w' => ∃ B k c qs G d ys m, e = .returned (.tuple #[.slice B k c, .slice G k d, .int .i64 m]) ∧ DCF w B k c qs G d ys m w' := by
  obtain ⟨i0, hi, ia, ib, ic⟩ := info_parts infoI
  go_enter Tryd.func15, Tryd.ntmps15
  go_wp2_with (first
    | (go_at_call 48; ((with_reducible refine (opN A n cap zs _ h hn).mono ?_); rintro e w1 ⟨rfl, hr, hb, hlt⟩; clear h))
    | (go_at_call 49; ((with_reducible refine (pay_ok w.heap.size _ _ hr ?_).mono ?_); (omega); rintro e w2 ⟨B, k, c, qs, m, rfl, hB, k1, k2, k3, k4, k5, hr2, hs⟩; have hw := hb.trans hs.1; have hB2 := Lib.hid hB; have hlt2 := hr2.lt; have T := IS.mk0 hr2 (Stp.refl _ w2) hlt2; clear hr hs hb hB hr2)))
  go_loopw [8, 9] (fun v i wr => ∃ (ys : List Int) (j g d : Nat), i = .int .i64 j ∧ j ≤ k ∧ v = .slice (some ⟨g, 0, none⟩) j d ∧ IS w2 wr w.heap.size (60 + 2 * j) j g d ys) (fun _ i _ => k - (intOf i).toNat)
  case atStart => exact ⟨[], 0, _, _, rfl, by omega, rfl, T.le (by omega)⟩
  case round =>
    clear T
    obtain ⟨ys, j, g, d, rfl, hj, rfl, T⟩ := hrel
    have hgc := T.2.2.2.2.2.2
    have hsz := T.2.1.2.1
    by_cases hlt3 : j < k
    · go_wp2_with (first
        | (go_at_call 50; ((with_reducible refine (pk _ _ _ _ (IS.rb T) ?_ ?_ ?_).mono ?_); (omega); (omega); (omega); rintro e w5 ⟨x5, rfl, y5, z5, hr, hs⟩; have T5 := T.step hr hs; clear hr hs T))
        | (go_at_call 50; ((with_reducible refine (pk _ _ _ _ (IS.rb T5) ?_ ?_ ?_).mono ?_); (omega); (omega); (omega); rintro e w6 ⟨x6, rfl, y6, z6, hr, hs⟩; have T6 := T5.step hr hs; clear hr hs T5; have hsz2 := T6.2.1.2.1))
        | (at_builtin; refine wpList_append_own _ rfl _ _ 28 rfl w2.heap.size 3 i0 (.int .i64 0) 1 8 Tryd.underlying28 hi ia ib ic rfl (by decide) _ _ _ rfl (IS.own (IS.alloc T6 _)) ⟨w6.heap.size, 0, none⟩ 1 1 [.int .i64 (x5 + x6 / 39 * 9)] rfl rfl ?c1 ?c2 ?c3 ?c4 ?c5 ?_))
      case c1 => exact cell_one_new _ _ _
      case c2 => simp [Value.oneCell']
      case c3 => unfold maxLen; omega
      case c4 => omega
      case c5 => simp; omega
      intro v' w7 hown1 hgrow _
      obtain ⟨g', c', rfl, T'⟩ := T6.app hown1 hgrow (by unfold Sm; omega)
      clear hown1 hgrow
      go_wp2
      go_roundw
      case rel => exact ⟨_, j + 1, g', c', by go_num, by omega, rfl, T'.le (by omega)⟩
      case measure => simp [intOf]; omega
    · obtain rfl : j = k := by omega
      go_wp2_with fail
      refine bodyPost_ret (v := .tuple #[.slice B j c, .slice (some ⟨g, 0, none⟩) j d, .int .i64 m]) (by simp [results, Tryd.results15, go_sem]) rfl ?_
      exact ⟨B, j, c, qs, _, d, ys, m, rfl, hB2.out _ T.2.1, T.ints, k1, k2, k3, hgc.2.1, hgc.2.2, T.2.2.2.2.2.1, k5, hw.trans T.2.1.1⟩
end Go.Proofs.YtoiaggjjfahabaaDoor
