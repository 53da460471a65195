/- Rows of ints and of structs of the call's own, without a reader. No condition. -/
import Derived.Test.YtoiaggjjfahabaaQuad
import Derived.Laws.AppendOwn
import Derived.Deep.DeepCutAuto
namespace Go.Proofs.Ytoiaggjjfahabaa
open Go.RowKit
set_option linter.unusedVariables false
theorem o_at {w : World} {base n e s : Nat} {v : Value} {xs : List Value} (h : w.ownsRow base e s v n xs) (hn : 0 < n) : ∃ g cap, v = .slice (some ⟨g, 0, none⟩) n cap ∧ base ≤ g ∧ g < w.heap.size ∧ n ≤ cap ∧ cap ≤ maxLen := by
  rcases h.2 with ⟨_, h0⟩ | ⟨g, cap, cur, rfl, hb, hg, hc, hm, _⟩
  · omega
  · refine ⟨g, cap, rfl, hb, ?_, hc, hm⟩
    rcases Nat.lt_or_ge g w.heap.size with h1 | h1
    · exact h1
    · rw [Array.getElem?_eq_none h1] at hg; cases hg
theorem o_new0 (w : World) (base e s : Nat) (hb : base ≤ w.heap.size) : (w.alloc (.cells #[] e)).ownsRow base e s (.slice (some ⟨w.heap.size, 0, none⟩) 0 0) 0 [] :=
  ⟨by simp, .inr ⟨w.heap.size, 0, #[], rfl, hb, heap_alloc_new w _, Nat.le_refl _, by simp [maxLen], by simp, by simp⟩⟩
/-- a row of ints of the call's own as a slice -/
theorem o_ints {t : TypeId} {w : World} {base n : Nat} {v : Value} {zs : List Int} (h : w.ownsRow base t 1 v n (zs.map (Value.int .i64))) (hz : zs.length = n) : ∃ A c, v = .slice A n c ∧ n ≤ c ∧ c ≤ maxLen ∧ Ints w A n zs := by
  rcases h.2 with ⟨rfl, rfl⟩ | ⟨g, cap, cur, rfl, hb, hg, hc, hm, _⟩
  · exact ⟨none, 0, rfl, Nat.le_refl _, by simp [maxLen], ⟨hz, fun h => absurd h (by omega)⟩⟩
  · refine ⟨_, cap, rfl, hc, hm, hz, fun hn => ⟨g, 0, rfl, ?_, fun k hk => ?_⟩⟩
    · rcases Nat.lt_or_ge g w.heap.size with h1 | h1
      · exact h1
      · rw [Array.getElem?_eq_none h1] at hg; cases hg
    · have := h.cellAt k (by omega)
      rw [Nat.zero_add, this, List.getElem?_map, List.getElem?_eq_getElem (by omega)]
      simp [hz, hk]
/-- a row of structs of the call's own as a slice -/
theorem o_books {t : TypeId} {w : World} {base n : Nat} {v : Value} {qs : List Quad} (h : w.ownsRow base t 4 v n (qs.flatMap Quad.cells)) (hq : qs.length = n) : ∃ A c, v = .slice A n c ∧ n ≤ c ∧ c ≤ maxLen ∧ Books w A n qs := by
  rcases h.2 with ⟨rfl, rfl⟩ | ⟨g, cap, cur, rfl, hb, hg, hc, hm, _⟩
  · exact ⟨none, 0, rfl, Nat.le_refl _, by simp [maxLen], ⟨hq, fun h => absurd h (by omega)⟩⟩
  · refine ⟨_, cap, rfl, hc, hm, hq, fun hn => ⟨g, 0, rfl, ?_, fun k hk => ?_⟩⟩
    · rcases Nat.lt_or_ge g w.heap.size with h1 | h1
      · exact h1
      · rw [Array.getElem?_eq_none h1] at hg; cases hg
    · obtain ⟨b0, b1, b2, b3⟩ := bks_at qs k (by omega)
      unfold bks at b0 b1 b2 b3
      rw [List.getElem?_toArray] at b0 b1 b2 b3
      have c0 := h.cells rfl _ _ b0
      have c1 := h.cells rfl _ _ b1
      have c2 := h.cells rfl _ _ b2
      have c3 := h.cells rfl _ _ b3
      rw [add_none] at c0 c1 c2 c3
      exact ⟨c0, by rw [← Nat.add_assoc] at c1; exact c1, by rw [← Nat.add_assoc] at c2; exact c2, by rw [← Nat.add_assoc] at c3; exact c3⟩
theorem o_cells (w : World) (t : TypeId) (q : Quad) : ∀ j u, q.cells[j]? = some u → (w.alloc (.cells #[.int .i64 q.a, .int .i64 q.b, .int .i64 q.c, .int .i64 q.d] t)).cell? ((⟨w.heap.size, 0, none⟩ : Addr).add j) = some u := by
  intro j u hj
  have h := (Blk.new w t #[.int .i64 q.a, .int .i64 q.b, .int .i64 q.c, .int .i64 q.d]).cell j
  rw [add_none, Nat.zero_add, h]
  simpa [Quad.cells] using hj
theorem o_one (w : World) (t : TypeId) (x : Value) : ∀ j u, [x][j]? = some u → (w.alloc (.cells #[x] t)).cell? ((⟨w.heap.size, 0, none⟩ : Addr).add j) = some u := by
  intro j u hj
  have h := (Blk.new w t #[x]).cell j
  rw [add_none, Nat.zero_add, h]
  simpa using hj
/-- the elements of a list as cells behind an address -/
def ONews (w : World) (b off : Nat) (zs : List Int) : Prop := ∀ j u, (zs.map (Value.int .i64))[j]? = some u → w.cell? ((⟨b, off, none⟩ : Addr).add j) = some u
theorem o_news {w : World} {b off n : Nat} {zs : List Int} (h : Ints w (some ⟨b, off, none⟩) n zs) : ONews w b off zs := by
  intro j u hj
  have hlt : j < zs.length := by
    rcases Nat.lt_or_ge j zs.length with g | g
    · exact g
    · rw [List.getElem?_eq_none (by simp; omega)] at hj; cases hj
  have hl := h.1
  obtain ⟨b', o', e, _, hc⟩ := h.2 (by omega)
  simp only [Option.some.injEq, Addr.mk.injEq, and_true] at e
  obtain ⟨rfl, rfl⟩ := e
  have := hc j (by omega)
  rw [List.getElem?_map, List.getElem?_eq_getElem hlt] at hj
  rw [List.getD_eq_getElem?_getD, List.getElem?_eq_getElem hlt] at this
  rw [add_none, this]
  simpa using hj
theorem o_ints1 (zs : List Int) : ∀ u ∈ zs.map (Value.int .i64), u.oneCell' = true := by
  intro u hu
  obtain ⟨z, _, rfl⟩ := List.mem_map.mp hu
  rfl
theorem o_cellx {w : World} {b off n : Nat} {zs : List Int} (h : Ints w (some ⟨b, off, none⟩) n zs) (i : Nat) (hi : i < n) : w.cell? ⟨b, off + i, none⟩ = some (.int .i64 (zs.getD i 0)) ∧ b < w.heap.size := by
  obtain ⟨b', o', e, hl, hc⟩ := h.2 (by omega)
  simp only [Option.some.injEq, Addr.mk.injEq, and_true] at e
  obtain ⟨rfl, rfl⟩ := e
  exact ⟨hc i hi, hl⟩
theorem o_addr {w : World} {A : Option Addr} {n : Nat} {zs : List Int} (h : Ints w A n zs) (hn : 0 < n) : ∃ b off, A = some ⟨b, off, none⟩ := by
  obtain ⟨b, off, e, _⟩ := h.2 hn; exact ⟨b, off, e⟩
end Go.Proofs.Ytoiaggjjfahabaa
