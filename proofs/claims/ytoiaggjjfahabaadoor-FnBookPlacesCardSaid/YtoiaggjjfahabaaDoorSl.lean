/- toIntS, eqIntS, CoinsValid, CoinSum: what they compute. No condition but the length that make bears. -/
import Derived.Test.YtoiaggjjfahabaaDoorMem
import Derived.Test.YtoiaggjjfahabaaDoorSc
namespace Go.Proofs.YtoiaggjjfahabaaDoor
open Go.RowKit

theorem infoInt : (Tryd.prog.info? 3).map (fun i => (i.zero, i.size, i.bytes)) = some (some (.int .i64 0), 1, 8) := by kernel_rfl
theorem fill_set (zs : List Int) (n k : Nat) (hz : zs.length = n) (hk : k < n) : (zs.take k ++ List.replicate (n - k) 0).set k (zs[k]?.getD 0) = zs.take (k + 1) ++ List.replicate (n - (k + 1)) 0 := by
  subst hz
  have e : zs.length - k = (zs.length - (k + 1)) + 1 := by omega
  have e0 : k - (zs.take k).length = 0 := by simp; omega
  rw [List.set_append_right _ _ (by simp; omega), e, List.replicate_succ, e0, List.set_cons_zero, List.take_succ_eq_append_getElem hk, List.getElem?_eq_getElem hk, Option.getD_some, List.append_assoc]
  rfl
def Made (w : World) (n : Nat) (zs : List Int) (t : TypeId) (e : Ending) (w' : World) : Prop :=
  ∃ g, e = .returned (.slice (some ⟨g, 0, none⟩) n n) ∧ w.heap.size ≤ g ∧ Ints w' (some ⟨g, 0, none⟩) n zs ∧ Blk w' g t (ints zs) ∧ Below w.heap.size w w'
theorem take_succ_eq {xs ys : List Int} {k : Nat} (h : xs.take k = ys.take k) (hk : xs[k]?.getD 0 = ys[k]?.getD 0) (h1 : k < xs.length) (h2 : k < ys.length) : xs.take (k + 1) = ys.take (k + 1) := by
  rw [List.take_succ_eq_append_getElem h1, List.take_succ_eq_append_getElem h2, h]
  have e : xs[k] = ys[k] := by simpa [h1, h2] using hk
  rw [e]
def eqB (xs ys : List Int) : Bool := decide (xs = ys)
end Go.Proofs.YtoiaggjjfahabaaDoor
