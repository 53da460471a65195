/- laws.alive: it returns true in every world. Condition: none. -/
import Derived.Test.YtoiaggjjfahabaaDoorAlive
namespace Go.Proofs.YtoiaggjjfahabaaDoor
open Go.RowKit
set_option linter.unusedVariables false
set_option maxRecDepth 100000 in
theorem alive_ok (w : World) : Calls Tryd.prog 19 #[] w fun e w' => e = .returned (.bool true) ∧ Below w.heap.size w w' := by
  have hg : Blk (w.alloc (.cells #[.int .i64 0, .int .i64 7, .int .i64 0, .int .i64 0] 3)) w.heap.size 3 (ints [0, 7, 0, 0]) := Blk.new w 3 _
  have hB := (Below.refl w.heap.size w).alloc (Nat.le_refl _) (.cells #[.int .i64 0, .int .i64 7, .int .i64 0, .int .i64 0] 3)
  go_enter Tryd.func19, Tryd.ntmps19
  go_wp2_with (go_at_call 55; first | (refine (hall_textA _ _ ⟨#[46, 44, 55, 47, 46, 44, 46]⟩ (.inl ⟨w.heap.size, 4, rfl, hg, rfl⟩)).mono ?_; clear hg; rintro e w1 ⟨rfl, hb⟩) | (refine (hall_textA _ _ ⟨#[]⟩ (.inr ⟨rfl, rfl⟩)).mono ?_; rintro e w2 ⟨rfl, hb2⟩))
  go_ret
  exact ⟨rfl, bt (hB.trans (hb.mono (by simp))) hb2⟩
end Go.Proofs.YtoiaggjjfahabaaDoor
