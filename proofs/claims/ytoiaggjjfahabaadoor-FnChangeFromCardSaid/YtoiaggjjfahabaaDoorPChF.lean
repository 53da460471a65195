/- Plain: change out of the stock, and out of a stock with one coin more. No program. -/
import Derived.Test.YtoiaggjjfahabaaDoorLCFor
import Derived.Test.YtoiaggjjfahabaaDoorPCut
namespace Go.Proofs.YtoiaggjjfahabaaDoor
set_option linter.unusedVariables false
/-- how many coins -/
def chC (zs qs : List Int) (m : Int) : Int := cost (fz zs) (fz qs) zs.length m.toNat
theorem ch_yes {zs qs : List Int} {m : Int} (h : chO zs qs m = true) :
    chH zs qs m ∧ csV zs (chV zs qs m) = m ∧ totL (chV zs qs m) (chV zs qs m).length = chC zs qs m ∧ leastV zs m ≤ chC zs qs m ∧ (chV zs qs m).length = zs.length ∧ ∀ j, j < zs.length → (chV zs qs m).getD j 0 ≤ qs.getD j 0 := by
  unfold chO at h
  split at h
  · rename_i hx
    have hx0 := hx
    obtain ⟨hv, hl0, h0, h1, hq⟩ := hx
    unfold cwO at h
    rw [decide_eq_true_iff] at h
    have ev : chV zs qs m = cwV (fz zs) (fz qs) zs.length m.toNat := by unfold chV; rw [if_pos hx0]
    have hl := cw_length h
    have hd := cw_dot hv h
    have hq9 : ∀ j, j < zs.length → fz qs j ≤ 300 := fun j hj => by
      have := hq j (by omega)
      rw [List.getD_eq_getElem?_getD] at this
      unfold fz; omega
    rw [← ev] at hl hd
    have ho : msOk (chV zs qs m) zs.length := by rw [ev]; exact cw_msOk hq9
    have hdm : dotTo (chV zs qs m) zs zs.length = m := by rw [hd.1]; omega
    have hls := least_dot hv (fun i hi => (ho i hi).1) (by rw [hdm]; exact h1)
    rw [hdm, hd.2] at hls
    refine ⟨hx0, ?_, ?_, hls.2, hl, fun j hj => ?_⟩
    · unfold csV; rw [if_pos ⟨hv, hl, ho⟩, hdm]
    · rw [tot_suT, hl, hd.2]; rfl
    · have w := way_at (fz zs) (fz qs) zs.length m.toNat j hj h
      have g := hq j (by omega)
      have e : (chV zs qs m).getD j 0 = (((way (fz zs) (fz qs) zs.length m.toNat).getD j 0 : Nat) : Int) := by
        rw [ev]; unfold cwV; rw [if_pos h, List.getD_eq_getElem?_getD, List.getElem?_map, List.getD_eq_getElem?_getD]
        cases (way (fz zs) (fz qs) zs.length m.toNat)[j]? <;> rfl
      rw [e]
      have : (fz qs j : Int) = qs.getD j 0 := by
        rw [List.getD_eq_getElem?_getD] at g ⊢; unfold fz; omega
      omega
  · cases h
theorem ch_none {zs qs : List Int} {m : Int} (h : chO zs qs m = false) : chV zs qs m = [] := by
  unfold chO at h
  split at h
  · rename_i hx
    unfold cwO at h
    rw [decide_eq_false_iff_not] at h
    unfold chV; rw [if_pos hx]; unfold cwV; rw [if_neg h]
  · rename_i hx
    unfold chV; rw [if_neg hx]
theorem ch_more {zs qs : List Int} {m : Int} (h : chO zs qs m = true) {k : Nat} (hk : k < zs.length) (h9 : qs.getD k 0 + 1 ≤ 9) :
    chO zs (qs.set k (qs.getD k 0 + 1)) m = true ∧ chC zs (qs.set k (qs.getD k 0 + 1)) m ≤ chC zs qs m := by
  obtain ⟨hx, _⟩ := ch_yes h
  obtain ⟨hv, hl0, h0, h1, hq⟩ := hx
  have hc : 0 ≤ cost (fz zs) (fz qs) zs.length m.toNat := by
    unfold chO at h
    rw [if_pos ⟨hv, hl0, h0, h1, hq⟩] at h
    unfold cwO at h
    rwa [decide_eq_true_iff] at h
  have hset : ∀ j, (qs.set k (qs.getD k 0 + 1)).getD j 0 = if k = j ∧ k < qs.length then qs.getD k 0 + 1 else qs.getD j 0 := fun j => getD_set qs k j _ 0
  have hq' : ∀ j, j < (qs.set k (qs.getD k 0 + 1)).length → 0 ≤ (qs.set k (qs.getD k 0 + 1)).getD j 0 ∧ (qs.set k (qs.getD k 0 + 1)).getD j 0 ≤ 9 := fun j hj => by
    rw [List.length_set] at hj
    rw [hset]
    have := hq j hj
    have := hq k (by omega)
    split <;> omega
  have hx' : chH zs (qs.set k (qs.getD k 0 + 1)) m := ⟨hv, by rw [List.length_set]; exact hl0, h0, h1, hq'⟩
  have key := cost_more (fz zs) (fz qs) (fz (qs.set k (qs.getD k 0 + 1))) zs.length m.toNat (fun j hj => (fz_at hv j hj).2.1) (fun j hj => by
    have e := hset j
    have q1 := hq j (by omega)
    rw [List.getD_eq_getElem?_getD] at e
    unfold fz
    rw [e]
    rw [List.getD_eq_getElem?_getD] at q1
    split
    · rename_i g; rw [← g.1, List.getD_eq_getElem?_getD]; omega
    · rw [List.getD_eq_getElem?_getD]; omega) hc
  refine ⟨?_, key.2⟩
  unfold chO
  rw [if_pos hx']
  unfold cwO
  rw [decide_eq_true_iff]
  exact key.1
theorem ch_sm (zs qs : List Int) (m : Int) (i : Nat) : -1000000 ≤ (chV zs qs m).getD i 0 ∧ (chV zs qs m).getD i 0 ≤ 1000000 := by
  unfold chV
  split
  · rename_i hx
    have := cw_bd (z := fz zs) (q := fz qs) (i := zs.length) (s := m.toNat) (fun j hj => by
      have := hx.2.2.2.2 j (by have := hx.2.1; omega)
      rw [List.getD_eq_getElem?_getD] at this
      unfold fz; omega) i
    rw [List.getD_eq_getElem?_getD]; omega
  · simp
end Go.Proofs.YtoiaggjjfahabaaDoor
