/- What MayLeave and PayStay compute, of the program and of the reference. No condition. -/
import Derived.Test.YtolnjpnaoeeanaaDoorDue
namespace Go.Proofs.YtolnjpnaoeeanaaDoor
open Go.RowKit

def mlV (f s p c i q a m : Int) : Bool := decide (0 ≤ dueV f s p c i q a m ∧ (dueV f s p c i q a m = 0 ∨ (m - a ≤ 15 ∧ dueV f s p c i q a a = 0)))
theorem dueV_nn {f s p c i q a m : Int} (h : 0 ≤ dueV f s p c i q a m) : tv f s p c = true ∧ sv i q a = true ∧ a ≤ m ∧ m ≤ 9999 := by
  unfold dueV at h
  split at h
  · assumption
  · omega
theorem due_bd {f s p c i q a m : Int} (h : tv f s p c = true) (h' : sv i q a = true) (h0 : a ≤ m) (h1 : m ≤ 9999) : 0 ≤ due f s p c i q m ∧ due f s p c i q m ≤ 693 := by
  obtain ⟨a1, a2, a3, a4, a5, a6⟩ := sv_bd h'
  have := fee_bd (m := m - i) h (by omega) (by omega)
  unfold due
  omega
theorem dueV_bd (f s p c i q a m : Int) : -1 ≤ dueV f s p c i q a m ∧ dueV f s p c i q a m ≤ 693 := by
  unfold dueV
  split
  · rename_i h
    have := due_bd h.1 h.2.1 h.2.2.1 h.2.2.2
    omega
  · omega
end Go.Proofs.YtolnjpnaoeeanaaDoor
