/- Rows of ints whose blocks may be longer than they. No condition. -/
import Derived.Test.YtoiaggjjfahabaaMem
import Derived.Test.YtoiaggjjfahabaaPCut
namespace Go.Proofs.Ytoiaggjjfahabaa
open Go.RowKit
set_option linter.unusedVariables false
/-- block g begins with the ints zs -/
def Rw (w : World) (g n : Nat) (zs : List Int) : Prop := zs.length = n ∧ ∃ cur, Blk w g 3 cur ∧ ∀ k, k < n → cur[k]? = some (.int .i64 (zs.getD k 0))
section
variable {w w' : World} {g n : Nat} {zs : List Int}
theorem Rw.lt (h : Rw w g n zs) : g < w.heap.size := by obtain ⟨_, cur, hb, _⟩ := h; exact hb.lt
theorem Rw.cell (h : Rw w g n zs) {k : Nat} (hk : k < n) : w.cell? ⟨g, k, none⟩ = some (.int .i64 (zs.getD k 0)) := by obtain ⟨_, cur, hb, hc⟩ := h; rw [hb.cell, hc k hk]
theorem Rw.frozen (h : Rw w g n zs) (i : Nat) : w.frozen? ⟨g, i, none⟩ = false := by obtain ⟨_, cur, hb, _⟩ := h; exact hb.frozen i
theorem Rw.keep (h : Rw w g n zs) (he : w'.heap[g]? = w.heap[g]?) : Rw w' g n zs := by obtain ⟨hl, cur, hb, hc⟩ := h; exact ⟨hl, cur, he.trans hb, hc⟩
theorem Rw.below {B : Nat} (h : Rw w g n zs) (hb : Below B w w') (hg : g < B) : Rw w' g n zs := h.keep (hb.block g hg)
theorem Rw.far (h : Rw w g n zs) {p : Addr} (hp : g ≠ p.block) (u : Value) : Rw (w.setCell p u) g n zs := h.keep (Below.heap_setCell w p u g hp)
theorem Rw.set (h : Rw w g n zs) (k : Nat) (v : Int) : Rw (w.setCell ⟨g, k, none⟩ (.int .i64 v)) g n (zs.set k v) := by
  obtain ⟨hl, cur, hb, hc⟩ := h
  refine ⟨by simpa using hl, _, hb.set_ k (.int .i64 v), fun j hj => ?_⟩
  rw [Array.getElem?_setIfInBounds, getD_set]
  by_cases e : k = j
  · subst e
    have hk := hc k hj
    have hsz : k < cur.size := by
      rcases Nat.lt_or_ge k cur.size with q | q
      · exact q
      · rw [Array.getElem?_eq_none q] at hk; cases hk
    rw [if_pos rfl, if_pos hsz, if_pos ⟨rfl, by omega⟩]
  · rw [if_neg e, if_neg (fun q => e q.1)]; exact hc j hj
theorem Rw.ints (h : Rw w g n zs) : Ints w (some ⟨g, 0, none⟩) n zs := ⟨h.1, fun hn => ⟨g, 0, rfl, h.lt, fun k hk => by rw [Nat.zero_add]; exact h.cell hk⟩⟩
theorem Rw.of_blk {w : World} {g n : Nat} {zs : List Int} (h : Blk w g 3 (Go.Proofs.Ytoiaggjjfahabaa.ints zs)) (hn : zs.length = n) : Rw w g n zs := ⟨hn, _, h, fun k hk => ints_at zs (by omega)⟩
theorem Rw.of_own {base c : Nat} (h : w.ownsRow base 3 1 (.slice (some ⟨g, 0, none⟩) n c) n (zs.map (Value.int .i64))) (hz : zs.length = n) : Rw w g n zs ∧ base ≤ g ∧ n ≤ c ∧ c ≤ maxLen := by
  rcases h.2 with ⟨h0, _⟩ | ⟨g', c', cur, e1, hb, hg, hcc, hm, hsz, htk⟩
  · cases h0
  · simp only [Value.slice.injEq, Option.some.injEq, Addr.mk.injEq, and_true, true_and] at e1
    obtain ⟨rfl, rfl⟩ := e1
    refine ⟨⟨hz, cur, hg, fun k hk => ?_⟩, hb, hcc, hm⟩
    have hc := h.cellAt k (by omega)
    have hB : Blk w g 3 cur := hg
    rw [hB.cell] at hc
    rw [hc, List.getElem?_map, List.getElem?_eq_getElem (by omega), List.getD_eq_getElem?_getD, List.getElem?_eq_getElem (by omega)]; rfl
end
end Go.Proofs.Ytoiaggjjfahabaa
