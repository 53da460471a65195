/- The walk of laws.FnMostUnits. No condition. -/
import Derived.Test.YtoiaggjjfahabaaDoorDFed
import Derived.Test.YtoiaggjjfahabaaDoorChg10
import Derived.Test.YtoiaggjjfahabaaDoorChg9
import Derived.Test.YtoiaggjjfahabaaDoorAliveL
import Derived.Deep.RegionLaw
namespace Go.Proofs.YtoiaggjjfahabaaDoor
open Go.RowKit
set_option linter.unusedVariables false
theorem mu_at {qs : List Quad} {cs : List Int} (h : 0 ≤ muV qs cs) : nsV qs = true ∧ fvV cs = true ∧ muV qs cs = lcV (usL qs) (rssL qs) cs := by
  unfold muV at h ⊢
  split at h
  · rename_i g; exact ⟨g.1, g.2, by rw [if_pos g]⟩
  · omega
theorem mu_no {qs : List Quad} {cs : List Int} (h : muV qs cs < 0) : muV qs cs = -1 := by
  by_cases g : nsV qs = true ∧ fvV cs = true
  · have := muV_nn g.1 g.2
    rw [this.1] at h; omega
  · unfold muV; rw [if_neg g]
theorem mp_pv {qs : List Quad} {cs : List Int} (h1 : nsV qs = true) (h2 : fvV cs = true) : pvV qs cs (mpV qs cs) = true := by
  obtain ⟨P, pl, ps, p6, pa⟩ := mp_good h1 h2
  have e := us_len qs
  rw [pvV_yes]
  refine ⟨h1, h2, pl, fun k hk => ⟨p6 k hk, fun j _ => P.row k (by rw [e]; exact hk) j, P.sum k (by rw [e]; exact hk)⟩, fun j hj => ?_⟩
  have := P.load j hj
  rw [e] at this; exact this
theorem fv_more {cs : List Int} (h : fvV cs = true) (j : Nat) (hj : j < 6) (hz : cs.getD j 0 + 1 ≤ 30) : fvV (cs.set j (cs.getD j 0 + 1)) = true := by
  obtain ⟨l, b⟩ := fv_at h
  unfold fvV
  simp only [decide_eq_true_eq]
  refine ⟨by rw [List.length_set]; exact l, fun i hi => ?_⟩
  rw [List.getD_eq_getElem?_getD, List.getElem?_set]
  have bj := b j
  by_cases e : j = i
  · subst e
    rw [if_pos rfl, if_pos (by omega), Option.getD_some]; omega
  · rw [if_neg e, ← List.getD_eq_getElem?_getD]; exact b i
theorem mu_more {qs : List Quad} {cs : List Int} (h : 0 ≤ muV qs cs) (j : Nat) (hj : j < 6) (hz : cs.getD j 0 + 1 ≤ 30) : muV qs (cs.set j (cs.getD j 0 + 1)) = muV qs cs ∨ muV qs (cs.set j (cs.getD j 0 + 1)) = muV qs cs + 1 := by
  obtain ⟨h1, h2, h3⟩ := mu_at h
  have h4 := (muV_nn h1 (fv_more h2 j hj hz)).1
  rw [h3, h4]
  exact lcV_more _ _ _ _ (by rw [(fv_at h2).1]; exact hj)
end Go.Proofs.YtoiaggjjfahabaaDoor
