/- CoinsValid and CoinSum: what they compute, of the program and of the reference. No condition but the length. -/
import Derived.Test.YtoiaggjjfahabaaSl
namespace Go.Proofs.Ytoiaggjjfahabaa
open Go.RowKit

def okAt (zs : List Int) (i : Nat) : Prop := 1 ≤ zs[i]?.getD 0 ∧ zs[i]?.getD 0 ≤ 99 ∧ (0 < i → zs[i - 1]?.getD 0 < zs[i]?.getD 0)
instance (zs : List Int) (i : Nat) : Decidable (okAt zs i) := by unfold okAt; infer_instance
def cv (zs : List Int) : Bool := decide (1 ≤ zs.length ∧ zs.length ≤ 5 ∧ ∀ i, i < zs.length → okAt zs i)
theorem cv_at {zs : List Int} (h : cv zs = true) : 1 ≤ zs.length ∧ zs.length ≤ 5 ∧ ∀ i, i < zs.length → 1 ≤ zs[i]?.getD 0 ∧ zs[i]?.getD 0 ≤ 99 := by
  unfold cv at h
  rw [decide_eq_true_iff] at h
  exact ⟨h.1, h.2.1, fun i hi => by have := h.2.2 i hi; unfold okAt at this; omega⟩
theorem l1In_q (n lo hi : Int) (w : World) :
    Calls Try.prog 34 #[.int .i64 n, .int .i64 lo, .int .i64 hi] w fun e w' => e = .returned (.bool (inR n lo hi)) ∧ w' = w :=
  (l1In_any n lo hi w).mono fun _ _ ⟨a, b⟩ => ⟨a, b.symm⟩
end Go.Proofs.Ytoiaggjjfahabaa
