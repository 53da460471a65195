/- MostPlan of the reference at all needs and feeds. Conditions: small numbers in the needs. -/
import Derived.Test.YtoiaggjjfahabaaDoorChg18
namespace Go.Proofs.YtoiaggjjfahabaaDoor
open Go.RowKit
set_option linter.unusedVariables false
set_option maxRecDepth 100000 in
set_option maxHeartbeats 1000000 in
theorem MostPlan_s (A C : Option Addr) (n c1 c2 m : Nat) (qs : List Quad) (cs : List Int) (w : World) (h : Books w A n qs) (hC : Ints w C m cs) (hn : n ≤ 1048576) (hm : m ≤ 1048576) (hsa : SmA qs) :
    Calls Tryd.prog 100 #[.slice A n c1, .slice C m c2] w (MQ w (mpV qs cs)) := by
  by_cases hv : nsV qs = true ∧ fvV cs = true
  · have hm6 : m = 6 := by rw [← hC.1]; exact (fv_at hv.2).1
    subst hm6
    have := MostPlan_s_yes A C n c1 c2 qs cs w h hC hv.1 hv.2
    unfold mpV
    rw [if_pos hv, h.1]; exact this
  · have M0 : ∀ w, Books w A n qs → Ints w C m cs → Calls Tryd.prog 61 #[.slice A n c1, .slice C m c2] w fun e w' => e = .returned (.int .i64 (-1)) ∧ Below w.heap.size w w' := fun w h hC => by
      have := MostUnits_s A C n c1 c2 m qs cs w h hC hn hm hsa
      have e : muV qs cs = -1 := by unfold muV; rw [if_neg hv]
      rw [e] at this; exact this
    have hmp : Hid (mpV qs cs = []) := by show _ = _; unfold mpV; rw [if_neg hv]
    have O0 : (w.alloc (.cells #[] 28)).ownsRow w.heap.size 28 1 (.slice (some ⟨w.heap.size, 0, none⟩) 0 0) 0 [] := nw_new0 w w.heap.size 28 1 (Nat.le_refl _)
    have hb0 : Below w.heap.size w (w.alloc (.cells #[] 28)) := (Below.refl _ _).alloc (Nat.le_refl _) _
    have h2 := h.below hb0
    have hC2 := hC.below hb0
    clear hv
    go_enter Tryd.func100, Tryd.ntmps100
    go_wp2_with (go_at_call 61; ((with_reducible refine (M0 _ h2 hC2).mono ?_); rintro e w1 ⟨rfl, hb1⟩))
    go_ret
    rw [hmp.out]
    have s0 : (w.alloc (.cells #[] 28)).heap.size = w.heap.size + 1 := by simp
    exact ⟨w.heap.size, 0, [], w.heap.size, rfl, OT.new _ (own_keep O0 (hb1.block _ (by omega))), Nat.le_refl _, hb0.trans (hb1.mono (by omega))⟩
end Go.Proofs.YtoiaggjjfahabaaDoor
