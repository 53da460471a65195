/- slices.Clone at bookings, withBook: what they compute. Condition: short lists. -/
import Derived.Test.YtoiaggjjfahabaaSrtQ
import Derived.Test.YtoiaggjjfahabaaGrow
import Derived.Deep.RegionLaw
namespace Go.Proofs.Ytoiaggjjfahabaa
open Go.RowKit
set_option linter.unusedVariables false
theorem len_cells2 (qs : List Quad) : (qs.flatMap Quad.cells).length = qs.length * 4 := by
  induction qs with
  | nil => rfl
  | cons q qs ih => rw [List.flatMap_cons, List.length_append, ih, List.length_cons]; simp [Quad.cells]; omega
theorem books_news2 {w : World} {g off m : Nat} {qs : List Quad} (h : Books w (some ⟨g, off, none⟩) m qs) : ∀ j u, (qs.flatMap Quad.cells)[j]? = some u → w.cell? ((⟨g, off, none⟩ : Addr).add j) = some u := by
  intro j u hj
  have hlt : j < qs.length * 4 := by
    rcases Nat.lt_or_ge j (qs.length * 4) with q | q
    · exact q
    · rw [List.getElem?_eq_none (by rw [len_cells2]; exact q)] at hj; cases hj
  have hl := h.1
  obtain ⟨b', o', e, _, hc⟩ := h.2 (by omega)
  simp only [Option.some.injEq, Addr.mk.injEq, and_true] at e
  obtain ⟨rfl, rfl⟩ := e
  obtain ⟨c0, c1, c2, c3⟩ := hc (j / 4) (by omega)
  obtain ⟨b0, b1, b2, b3⟩ := bks_at qs (j / 4) (by omega)
  unfold bks at b0 b1 b2 b3
  rw [List.getElem?_toArray] at b0 b1 b2 b3
  rw [add_none]
  rcases (by omega : j % 4 = 0 ∨ j % 4 = 1 ∨ j % 4 = 2 ∨ j % 4 = 3) with m | m | m | m
  · rw [show j / 4 * 4 = j by omega] at b0 c0; rw [c0, ← b0, hj]
  · rw [show j / 4 * 4 + 1 = j by omega] at b1; rw [show off + j / 4 * 4 + 1 = off + j by omega] at c1; rw [c1, ← b1, hj]
  · rw [show j / 4 * 4 + 2 = j by omega] at b2; rw [show off + j / 4 * 4 + 2 = off + j by omega] at c2; rw [c2, ← b2, hj]
  · rw [show j / 4 * 4 + 3 = j by omega] at b3; rw [show off + j / 4 * 4 + 3 = off + j by omega] at c3; rw [c3, ← b3, hj]
theorem one_cells2 (qs : List Quad) : ∀ u ∈ qs.flatMap Quad.cells, u.oneCell' = true := by
  intro u hu
  obtain ⟨q, _, hq⟩ := List.mem_flatMap.1 hu
  simp [Quad.cells] at hq
  rcases hq with rfl | rfl | rfl | rfl <;> rfl
theorem own_some {w : World} {base e s n : Nat} {v : Value} {xs : List Value} (h : w.ownsRow base e s v n xs) (hv : v ≠ .slice none 0 0) : ∃ g c, v = .slice (some ⟨g, 0, none⟩) n c ∧ base ≤ g ∧ g < w.heap.size ∧ n ≤ c ∧ c ≤ maxLen := by
  rcases h.2 with ⟨h0, _⟩ | ⟨g, cap, cur, e1, hb, hg, hcc, hm, _⟩
  · exact absurd h0 hv
  · refine ⟨g, cap, e1, hb, ?_, hcc, hm⟩
    rcases Nat.lt_or_ge g w.heap.size with q | q
    · exact q
    · rw [Array.getElem?_eq_none q] at hg; cases hg
theorem infoBk2 : (Try.prog.info? 46).map (fun i => (i.zero, i.size, i.bytes)) = some (some (.agg #[.int .i64 0, .int .i64 0, .int .i64 0, .int .i64 0]), 4, 32) := by kernel_rfl
/-- a list of bookings that the call has made -/
def MQ (w : World) (n : Nat) (qs : List Quad) (e : Ending) (w' : World) : Prop :=
  ∃ g c, e = .returned (.slice (some ⟨g, 0, none⟩) n c) ∧ w'.ownsRow w.heap.size 46 4 (.slice (some ⟨g, 0, none⟩) n c) n (qs.flatMap Quad.cells) ∧ qs.length = n ∧ Below w.heap.size w w'
set_option maxRecDepth 100000 in
set_option maxHeartbeats 1000000 in
theorem Clone_any (b off n cap : Nat) (qs : List Quad) (w : World) (h : Books w (some ⟨b, off, none⟩) n qs) (hn : n ≤ 1048576) :
    Calls Try.prog 55 #[.slice (some ⟨b, off, none⟩) n cap] w (MQ w n qs) := by
  obtain ⟨i0, hi, ia, ib, ic⟩ := info_parts infoBk2
  have hlen := h.1
  have HL := Lib.hid hlen
  have hA := h.below (show Below w.heap.size w (w.alloc (.cells #[] 46)) from (Below.refl _ _).alloc (Nat.le_refl _) _)
  have HN := Lib.hid (books_news2 hA)
  have hnl := fun (w : World) (n c : Nat) => Lib.run_eql_slice_nil (P := Try.prog) w 26 46 (some ⟨b, off, none⟩) n c 0 0 Try.underlying26
  clear hlen hA
  go_enter Try.func55, Try.ntmps55
  go_wp2_with (at_builtin; refine wpList_append_own _ rfl _ _ 26 rfl w.heap.size 46 i0 (.agg #[.int .i64 0, .int .i64 0, .int .i64 0, .int .i64 0]) 4 32 Try.underlying26 hi ia ib ic rfl (by decide) _ _ _ rfl (o_new0 w w.heap.size 46 4 (Nat.le_refl _)) ⟨b, off, none⟩ n cap (qs.flatMap Quad.cells) rfl ?c0 ?c1 ?c2 ?c3 ?c4 ?c5 ?_)
  case c0 => rw [len_cells2, HL.out]
  case c1 => exact HN.out
  case c2 => exact one_cells2 qs
  case c3 => unfold maxLen; omega
  case c4 => omega
  case c5 => simp
  intro v' w1 hown1 hgrow hnil
  have hown2 : w1.ownsRow w.heap.size 46 4 v' n (qs.flatMap Quad.cells) := by simpa using hown1
  have hb1 : Below w.heap.size w w1 := ((Below.refl w.heap.size w).alloc (Nat.le_refl _) (.cells #[] 46)).grown hgrow (by simp) (fun q hq => by simp [Value.ownBlock] at hq; omega)
  obtain ⟨g, c, rfl, _⟩ := own_some hown2 (fun e => hnil e)
  clear hown1 hgrow hnil
  go_wp2
  go_ret
  exact ⟨g, c, rfl, hown2, HL.out, hb1⟩
end Go.Proofs.Ytoiaggjjfahabaa
