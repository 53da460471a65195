/- The walks of laws.FnExactTicketText and laws.FnExactReadTicket; the table of powers of ten out of the row's condition. Condition: that table holds what the program's text lays in it. -/
import Derived.Test.YtoiaggjjfahabaaDoorTkQ
import Derived.Lib.LaidTab
namespace Go.Proofs.YtoiaggjjfahabaaDoor
open Go.RowKit
set_option linter.unusedVariables false
theorem tab_of_laid3 {a b : String × DataW Unit} {W : World} (h : laidMet Tryd.prog [a, b, ("internal/strconv.uint64pow10", Lib.tabData .u64 Lib.pow10Tab)] W) : TabT W := by
  obtain ⟨ps, h1, _⟩ := h
  obtain ⟨_, _, _, _, _, q1, _, _, _, _, h2, _⟩ := h1
  obtain ⟨_, _, _, _, _, q2, _, _, _, _, h3, _⟩ := h2
  obtain ⟨g', t', cs, fuel, p, q, hg', ht', hvar, hd, _, _⟩ := h3
  have hg : Tryd.prog.globalNamed "internal/strconv.uint64pow10" = some 0 := by kernel_rfl
  have hty : (Tryd.prog.globals[0]?).map (·.type) = some 145 := by kernel_rfl
  obtain rfl := Option.some.inj (hg.symm.trans hg')
  obtain rfl := Option.some.inj (hty.symm.trans ht')
  unfold TabT Lib.TabIs
  rw [hvar, ← Lib.cells_of_tab Tryd.underlying145 Tryd.underlying126 (by kernel_rfl) (by kernel_rfl) hd]
set_option maxRecDepth 100000 in
set_option maxHeartbeats 1000000 in
theorem FnExactTicketText_walk (w : World) (n : Int) (hT : TabT w) : Calls Tryd.prog 3 #[.int .i64 n] w fun e w' => e = .returned (.bool true) ∧ Below w.heap.size w w' := by
  have S := TicketText_s n
  have I := TicketText_i n
  generalize tk n = t at *
  go_enter Tryd.func3, Tryd.ntmps3
  go_wp2_with (first
    | (go_at_call 11; refine (S _).mono ?_; rintro e w1 ⟨rfl, h1⟩)
    | (go_at_call 12; refine (I _ (hT.below h1)).mono ?_; rintro e w2 ⟨rfl, h2⟩))
  go_ret
  exact ⟨rfl, bt h1 h2⟩
set_option maxRecDepth 100000 in
set_option maxHeartbeats 1000000 in
theorem FnExactReadTicket_walk (w : World) (s : ByteArray) (hT : TabT w) : Calls Tryd.prog 4 #[.string s] w fun e w' => e = .returned (.bool true) ∧ Below w.heap.size w w' := by
  have S := ReadTicket_s s
  have I := ReadTicket_i s
  unfold RdQ at S I
  generalize rdN s = x at *
  generalize rdB s = b at *
  by_cases hs : 1048576 < s.size
  · have hb : decide (1048576 < (s.size : Int)) = true := by simp; omega
    clear S I
    go_enter Tryd.func4, Tryd.ntmps4
    go_wp2
    go_ret
    exact ⟨rfl, Below.refl _ _⟩
  · have hb : decide (1048576 < (s.size : Int)) = false := by simp; omega
    go_enter Tryd.func4, Tryd.ntmps4
    go_wp2_with (first
      | (go_at_call 13; refine (S _).mono ?_; rintro e w1 ⟨rfl, h1⟩)
      | (go_at_call 14; refine (I _ (hT.below h1)).mono ?_; rintro e w2 ⟨rfl, h2⟩))
    go_ret
    exact ⟨rfl, bt h1 h2⟩
end Go.Proofs.YtoiaggjjfahabaaDoor
