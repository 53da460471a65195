/- The walk of laws.FnCoinSum. No condition. -/
import Derived.Test.YtoiaggjjfahabaaDoorIS
import Derived.Test.YtoiaggjjfahabaaDoorCSum
import Derived.Test.YtoiaggjjfahabaaDoorQS
import Derived.Test.YtoiaggjjfahabaaDoorAliveL
namespace Go.Proofs.YtoiaggjjfahabaaDoor
open Go.RowKit
set_option linter.unusedVariables false
/-- a number of a row of the call's own is set -/
theorem own_put {w : World} {base n e g cap : Nat} {zs : List Int} (h : w.ownsRow base e 1 (.slice (some ⟨g, 0, none⟩) n cap) n (zs.map (Value.int .i64))) (hz : zs.length = n) {k : Nat} (hk : k < n) (v : Int) :
    Ints (w.setCell ⟨g, k, none⟩ (.int .i64 v)) (some ⟨g, 0, none⟩) n (zs.set k v) ∧ w.frozen? ⟨g, k, none⟩ = false ∧ w.cell? ⟨g, k, none⟩ = some (.int .i64 (zs.getD k 0)) ∧ base ≤ g ∧ g < w.heap.size := by
  have hc := h.cellAt k (by omega)
  obtain ⟨g', c', e1, hlo, hlt, _⟩ := own_at h (by omega)
  simp only [Value.slice.injEq, Option.some.injEq, Addr.mk.injEq, and_true, true_and] at e1
  obtain ⟨rfl, rfl⟩ := e1
  have hcell : w.cell? ⟨g, k, none⟩ = some (.int .i64 (zs.getD k 0)) := by
    rw [hc, List.getElem?_map, List.getElem?_eq_getElem (by omega), List.getD_eq_getElem?_getD, List.getElem?_eq_getElem (by omega)]; rfl
  rcases h.2 with ⟨_, h0⟩ | ⟨g1, c1, cur, e2, hb, hg, hcc, hm, hsz, htk⟩
  · omega
  · simp only [Value.slice.injEq, Option.some.injEq, Addr.mk.injEq, and_true, true_and] at e2
    obtain ⟨rfl, rfl⟩ := e2
    have hB : Blk w g e cur := hg
    refine ⟨⟨by simp [hz], fun _ => ⟨g, 0, rfl, by simpa [World.setCell] using hlt, fun j hj => ?_⟩⟩, hB.frozen k, hcell, hlo, hlt⟩
    have hj' := h.cellAt j (by omega)
    rw [hB.cell] at hj'
    have hk' := hc
    rw [hB.cell] at hk'
    rw [Nat.zero_add, (hB.set_ k (.int .i64 v)).cell, Array.getElem?_setIfInBounds, List.getD_eq_getElem?_getD, List.getElem?_set]
    by_cases e3 : k = j
    · subst e3
      rw [if_pos rfl, if_pos rfl]
      have : k < cur.size := by
        rcases Nat.lt_or_ge k cur.size with q | q
        · exact q
        · rw [Array.getElem?_eq_none q, List.getElem?_map, List.getElem?_eq_getElem (by omega)] at hk'; cases hk'
      have hks : k < zs.length := by omega
      simp [this, hks]
    · rw [if_neg e3, if_neg e3, hj', List.getElem?_map, List.getElem?_eq_getElem (by omega)]; rfl
theorem dot_set (ms zs : List Int) (k : Nat) (v : Int) (hk : k < ms.length) (n : Nat) : dotTo (ms.set k v) zs n = dotTo ms zs n + if k < n then (v - ms[k]?.getD 0) * zs[k]?.getD 0 else 0 := by
  induction n with
  | zero => simp [dotTo]
  | succ n ih =>
    unfold dotTo
    rw [ih, List.getElem?_set]
    by_cases e : k = n
    · subst e
      rw [if_neg (Nat.lt_irrefl k), if_pos rfl, if_pos hk, if_pos (Nat.lt_succ_self k), Option.getD_some, Int.sub_mul]; omega
    · rw [if_neg e]
      by_cases g : k < n
      · rw [if_pos g, if_pos (show k < n + 1 by omega)]; omega
      · rw [if_neg g, if_neg (show ¬ k < n + 1 by omega)]; omega
theorem csV_yes {zs ms : List Int} (h : 0 ≤ csV zs ms) : cv zs = true ∧ ms.length = zs.length ∧ msOk ms zs.length ∧ csV zs ms = dotTo ms zs zs.length := by
  unfold csV at h ⊢
  split at h
  · rename_i g; rw [if_pos g]; exact ⟨g.1, g.2.1, g.2.2, rfl⟩
  · omega
theorem dot_bd {zs ms : List Int} (hz : ∀ i, i < zs.length → 1 ≤ zs[i]?.getD 0 ∧ zs[i]?.getD 0 ≤ 99) (hm : msOk ms zs.length) (k : Nat) (hk : k ≤ zs.length) : 0 ≤ dotTo ms zs k ∧ dotTo ms zs k ≤ 29700 * k := by
  induction k with
  | zero => simp [dotTo]
  | succ k ih =>
    have := ih (by omega)
    have := prod_bd (hm k (by omega)) (hz k (by omega))
    unfold dotTo; omega
theorem csV_bd (zs ms : List Int) : -1 ≤ csV zs ms ∧ csV zs ms ≤ 148500 := by
  unfold csV
  split
  · rename_i g
    have := dot_bd (cv_at g.1).2.2 g.2.2 zs.length (Nat.le_refl _)
    have := (cv_at g.1).2.1
    omega
  · omega
/-- with one coin more it is more by its value -/
theorem csV_more {zs ms : List Int} (h : 0 ≤ csV zs ms) (k : Nat) (hk : k < zs.length) (h3 : ms[k]?.getD 0 + 1 ≤ 300) : csV zs (ms.set k (ms[k]?.getD 0 + 1)) = csV zs ms + zs[k]?.getD 0 := by
  obtain ⟨h1, h2, h4, h5⟩ := csV_yes h
  have hok : msOk (ms.set k (ms[k]?.getD 0 + 1)) zs.length := by
    intro i hi
    rw [List.getElem?_set]
    by_cases e : k = i
    · subst e; rw [if_pos rfl, if_pos (by omega), Option.getD_some]; have := h4 k hk; omega
    · rw [if_neg e]; exact h4 i hi
  rw [h5]
  unfold csV
  rw [if_pos ⟨h1, by simp [h2], hok⟩, dot_set _ _ _ _ (by omega), if_pos hk, show ms[k]?.getD 0 + 1 - ms[k]?.getD 0 = 1 by omega, Int.one_mul]
end Go.Proofs.YtoiaggjjfahabaaDoor
