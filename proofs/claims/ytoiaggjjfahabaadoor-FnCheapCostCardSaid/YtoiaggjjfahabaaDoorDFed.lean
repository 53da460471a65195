/- l20Fed and the draws of needs and a feed. No condition. -/
import Derived.Test.YtoiaggjjfahabaaDoorDNeeds
import Derived.Test.YtoiaggjjfahabaaDoorDFeed
import Derived.Test.YtoiaggjjfahabaaDoorChg1
namespace Go.Proofs.YtoiaggjjfahabaaDoor
open Go.RowKit
set_option linter.unusedVariables false
/-- drawn needs and a feed -/
def DFd (w : World) (r B' : Nat) (e : Ending) (w' : World) : Prop :=
  ∃ A k c qs G m d zs, e = .returned (.tuple #[.slice A k c, .slice G m d]) ∧ (∀ w2, Stp r w' w2 → Books w2 A k qs) ∧ (∀ w2, Stp r w' w2 → Ints w2 G m zs) ∧ k ≤ 9 ∧ k ≤ c ∧ c ≤ maxLen ∧ m ≤ 7 ∧ m ≤ d ∧ d ≤ maxLen ∧ (∀ q ∈ qs, SmQ q) ∧ (∀ z ∈ zs, Sm z) ∧ RB w' r B' ∧ Stp r w w'
/-- drawn needs and a feed, without the reader -/
def DFA (w : World) (A : Option Addr) (k c : Nat) (qs : List Quad) (G : Option Addr) (m d : Nat) (zs : List Int) (w' : World) : Prop :=
  Books w' A k qs ∧ Ints w' G m zs ∧ k ≤ 9 ∧ k ≤ c ∧ c ≤ maxLen ∧ m ≤ 7 ∧ m ≤ d ∧ d ≤ maxLen ∧ (∀ q ∈ qs, SmQ q) ∧ (∀ z ∈ zs, Sm z) ∧ SmA qs ∧ Below w.heap.size w w'
theorem smA_all {qs : List Quad} (h : ∀ q ∈ qs, SmQ q) : SmA qs := by
  intro i
  rcases Nat.lt_or_ge i qs.length with g | g
  · have e : qs.getD i q0 = qs[i] := by rw [List.getD_eq_getElem?_getD, List.getElem?_eq_getElem g]; rfl
    rw [e]
    exact (h _ (List.getElem_mem g)).1
  · have e : qs.getD i q0 = q0 := by rw [List.getD_eq_getElem?_getD, List.getElem?_eq_none g]; rfl
    rw [e]; simp [q0]
end Go.Proofs.YtoiaggjjfahabaaDoor
