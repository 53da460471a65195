/- The walk of laws.FnCoinsFor. No condition. -/
import Derived.Test.YtoiaggjjfahabaaDoorLGreed
import Derived.Test.YtoiaggjjfahabaaDoorLCSum
import Derived.Test.YtoiaggjjfahabaaDoorCSpec2
import Derived.Deep.RegionLaw
namespace Go.Proofs.YtoiaggjjfahabaaDoor
open Go.RowKit
set_option linter.unusedVariables false
theorem dot_congr (ms zs zs' : List Int) (n : Nat) (h : ∀ j, j < n → zs[j]?.getD 0 = zs'[j]?.getD 0) : dotTo ms zs n = dotTo ms zs' n := by
  induction n with
  | zero => rfl
  | succ n ih => unfold dotTo; rw [ih fun j hj => h j (by omega), h n (by omega)]
theorem cw_msOk {z q : Nat → Nat} {n a : Nat} (hq : ∀ j, j < n → q j ≤ 300) : msOk (cwV z q n a) n := fun i hi => cw_bd hq i
theorem cw_dot {zs : List Int} (hv : cv zs = true) {q : Nat → Nat} {a : Nat} (hc : 0 ≤ cost (fz zs) q zs.length a) : dotTo (cwV (fz zs) q zs.length a) zs zs.length = (a : Int) ∧ suT (cwV (fz zs) q zs.length a) zs.length = cost (fz zs) q zs.length a := by
  have h := way_sum (fz zs) q zs.length a (fun j hj => (fz_at hv j hj).2.1) hc
  have e : cwV (fz zs) q zs.length a = (way (fz zs) q zs.length a).map Int.ofNat := by unfold cwV; rw [if_pos hc]
  rw [e]
  refine ⟨?_, h.2⟩
  rw [← h.1]
  refine dot_congr _ _ _ _ fun j hj => ?_
  have := (fz_at hv j hj).1
  rw [List.getD_eq_getElem?_getD] at this
  rw [this, List.getElem?_map, List.getElem?_range hj]; rfl
theorem cw_length {z q : Nat → Nat} {n a : Nat} (hc : 0 ≤ cost z q n a) : (cwV z q n a).length = n := by unfold cwV; rw [if_pos hc, List.length_map, way_len]
theorem cf_yes {qs : List Int} {m : Int} (h : cfO qs m = true) : cv qs = true ∧ 0 ≤ m ∧ m ≤ 300 ∧ csV qs (cfV qs m) = m ∧ totL (cfV qs m) (cfV qs m).length = leastV qs m ∧ (cfV qs m).length = qs.length := by
  unfold cfO at h
  split at h
  · rename_i hx
    have e := cf_case hx
    obtain ⟨hv, h0, h1⟩ := hx
    unfold cwO at h
    rw [decide_eq_true_iff] at h
    have ev : cfV qs m = cwV (fz qs) s300 qs.length m.toNat := by unfold cfV; rw [if_pos ⟨hv, h0, h1⟩]
    have hl := cw_length h
    have hd := cw_dot hv h
    rw [← ev] at hl hd
    have ho : msOk (cfV qs m) qs.length := by rw [ev]; exact cw_msOk fun j _ => Nat.le_refl _
    refine ⟨hv, h0, h1, ?_, ?_, hl⟩
    · unfold csV; rw [if_pos ⟨hv, hl, ho⟩, hd.1]; omega
    · rw [tot_suT, hl, hd.2, e]
  · cases h
theorem cf_no {qs : List Int} {m : Int} (h : cfO qs m = false) : cfV qs m = [] ∧ leastV qs m = -1 := by
  unfold cfO at h
  split at h
  · rename_i hx
    have e := cf_case hx
    unfold cwO at h
    rw [decide_eq_false_iff_not] at h
    refine ⟨by unfold cfV; rw [if_pos hx]; unfold cwV; rw [if_neg h], ?_⟩
    have := cost_bd (fz qs) s300 qs.length m.toNat
    omega
  · rename_i hx
    refine ⟨by unfold cfV; rw [if_neg hx], ?_⟩
    unfold leastV
    rw [if_neg (show ¬ (cv qs = true ∧ 0 ≤ m ∧ m ≤ 300) from hx)]
theorem cf_sm (qs : List Int) (m : Int) (i : Nat) : -1000000 ≤ (cfV qs m).getD i 0 ∧ (cfV qs m).getD i 0 ≤ 1000000 := by
  unfold cfV
  split
  · have := cw_bd (z := fz qs) (q := s300) (i := qs.length) (s := m.toNat) (fun j _ => Nat.le_refl _) i
    rw [List.getD_eq_getElem?_getD]; omega
  · simp
end Go.Proofs.YtoiaggjjfahabaaDoor
