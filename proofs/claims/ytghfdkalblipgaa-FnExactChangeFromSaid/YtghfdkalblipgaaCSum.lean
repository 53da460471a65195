/- CoinSum: what it computes, of the program and of the reference. No condition but the lengths. -/
import Derived.Test.YtghfdkalblipgaaCoin
namespace Go.Proofs.Ytghfdkalblipgaa
open Go.RowKit

def dotTo (ms zs : List Int) : Nat → Int
  | 0 => 0
  | k + 1 => dotTo ms zs k + ms[k]?.getD 0 * zs[k]?.getD 0
def msOk (ms : List Int) (n : Nat) : Prop := ∀ i, i < n → 0 ≤ ms[i]?.getD 0 ∧ ms[i]?.getD 0 ≤ 300
instance (ms : List Int) (n : Nat) : Decidable (msOk ms n) := by unfold msOk; infer_instance
def csV (zs ms : List Int) : Int := if cv zs = true ∧ ms.length = zs.length ∧ msOk ms zs.length then dotTo ms zs zs.length else -1
theorem prod_bd {a b : Int} (h1 : 0 ≤ a ∧ a ≤ 300) (h2 : 1 ≤ b ∧ b ≤ 99) : 0 ≤ a * b ∧ a * b ≤ 29700 := by
  have h3 := Int.mul_le_mul h1.2 h2.2 (by omega) (by omega)
  have h4 := Int.mul_nonneg h1.1 (show (0 : Int) ≤ b by omega)
  omega
end Go.Proofs.Ytghfdkalblipgaa
