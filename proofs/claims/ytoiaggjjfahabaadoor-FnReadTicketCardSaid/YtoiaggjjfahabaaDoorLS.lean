/- Drawn lists: a row of the call's own beside the reader. No condition. -/
import Derived.Test.YtoiaggjjfahabaaDoorRB
import Derived.Laws.AppendOwn
namespace Go.Proofs.YtoiaggjjfahabaaDoor
open Go.RowKit
set_option linter.unusedVariables false
theorem infoI : (Tryd.prog.info? 3).map (fun i => (i.zero, i.size, i.bytes)) = some (some (.int .i64 0), 1, 8) := by kernel_rfl
theorem ownsRow_stp {w0 w w' : World} {r base e size n : Nat} {v : Value} {xs : List Value} (h : w.ownsRow base e size v n xs) (hs : Stp r w w') (hr : r < base) : w'.ownsRow base e size v n xs := by
  refine ⟨h.1, ?_⟩
  rcases h.2 with h0 | ⟨g, cap, cur, h1, h2, h3, h4⟩
  · exact .inl h0
  · refine .inr ⟨g, cap, cur, h1, h2, ?_, h4⟩
    have hlt : g < w.heap.size := by
      rcases Nat.lt_or_ge g w.heap.size with h | h
      · exact h
      · rw [Array.getElem?_eq_none h] at h3; cases h3
    rw [hs.2.2 g (by omega) hlt]; exact h3
theorem own_new1 (w : World) (base e : Nat) (x : Value) (hb : base ≤ w.heap.size) : (w.alloc (.cells #[x] e)).ownsRow base e 1 (.slice (some ⟨w.heap.size, 0, none⟩) 1 1) 1 [x] :=
  ⟨rfl, .inr ⟨w.heap.size, 1, #[x], rfl, hb, heap_alloc_new w _, Nat.le_refl _, by simp [maxLen], rfl, rfl⟩⟩
theorem own_new0 (w : World) (base e : Nat) (hb : base ≤ w.heap.size) : (w.alloc (.cells #[] e)).ownsRow base e 1 (.slice (some ⟨w.heap.size, 0, none⟩) 0 0) 0 [] :=
  ⟨rfl, .inr ⟨w.heap.size, 0, #[], rfl, hb, heap_alloc_new w _, Nat.le_refl _, by simp [maxLen], rfl, rfl⟩⟩
theorem own_at {w : World} {base n e s : Nat} {v : Value} {xs : List Value} (h : w.ownsRow base e s v n xs) (hn : 0 < n) : ∃ g cap, v = .slice (some ⟨g, 0, none⟩) n cap ∧ base ≤ g ∧ g < w.heap.size ∧ n ≤ cap ∧ cap ≤ maxLen := by
  rcases h.2 with ⟨_, h0⟩ | ⟨g, cap, cur, rfl, hb, hg, hc, hm, _⟩
  · omega
  · refine ⟨g, cap, rfl, hb, ?_, hc, hm⟩
    rcases Nat.lt_or_ge g w.heap.size with h1 | h1
    · exact h1
    · rw [Array.getElem?_eq_none h1] at hg; cases hg
theorem own_ints1 {w : World} {base n e g cap : Nat} {zs : List Int} (h : w.ownsRow base e 1 (.slice (some ⟨g, 0, none⟩) n cap) n (zs.map (Value.int .i64))) (hz : zs.length = n) : Ints w (some ⟨g, 0, none⟩) n zs := by
  refine ⟨hz, fun hn => ⟨g, 0, rfl, ?_, fun k hk => ?_⟩⟩
  · obtain ⟨g', c', e1, _, h2, _⟩ := own_at h hn
    simp only [Value.slice.injEq, Option.some.injEq, Addr.mk.injEq, and_true, true_and] at e1
    rw [e1.1]; exact h2
  · have := h.cellAt k (by omega)
    rw [Nat.zero_add, this, List.getElem?_map, List.getElem?_eq_getElem (by omega)]
    simp [hz, hk]
theorem Stp.grown {r : Nat} {w0 w w' : World} {row : Option Nat} (h : Stp r w0 w) (hg : w.grownBy w' row) (hr : r ≤ w0.heap.size) (hrow : ∀ q, row = some q → w0.heap.size ≤ q) : Stp r w0 w' := by
  refine ⟨h.1.grown hg (by have := h.2.1; omega) (fun q hq => by have := hrow q hq; omega), Nat.le_trans h.2.1 hg.size, fun k hk hlt => ?_⟩
  rw [← h.2.2 k hk hlt]
  exact hg.block k (Nat.lt_of_lt_of_le hlt h.2.1) (fun e => by have := hrow k e.symm; omega)
theorem RB.grown {r B base : Nat} {w w' : World} {row : Option Nat} (h : RB w r B) (hg : w.grownBy w' row) (hr : r < base) (hbw : base ≤ w.heap.size) (hrow : ∀ q, row = some q → base ≤ q) : RB w' r B := by
  obtain ⟨A, n, c, zs, p, hp, h1, h2, h3, h4⟩ := h
  have hb : Below base w w' := (Below.refl base w).grown hg hbw hrow
  have hlt := h4.lt
  refine ⟨A, n, c, zs, p, hp, h1, h2, ⟨h3.1, h3.2.1, fun hn => ?_⟩, h4.below hb hr⟩
  obtain ⟨b, off, rfl, hbr, hc⟩ := h3.2.2 hn
  exact ⟨b, off, rfl, hbr, fun k hk => (hb.cell (p := ⟨b, off + k, none⟩) (by show b < base; omega)).trans (hc k hk)⟩
/-- the state of a drawn list of ints: m + 1 of them, in block g -/
def LS (w0 w : World) (r B m g c : Nat) (zs : List Int) : Prop :=
  RB w r B ∧ Stp r w0 w ∧ w.ownsRow w0.heap.size 3 1 (.slice (some ⟨g, 0, none⟩) (m + 1) c) (m + 1) (zs.map (Value.int .i64)) ∧ r < w0.heap.size ∧ zs.length = m + 1 ∧ (∀ z ∈ zs, 1 ≤ z ∧ z ≤ 99)
section
variable {w0 w w' : World} {r B B' m g c : Nat} {zs : List Int}
theorem LS.rb (h : LS w0 w r B m g c zs) : RB w r B := h.1
theorem LS.step (h : LS w0 w r B m g c zs) (hr : RB w' r B') (hs : Stp r w w') : LS w0 w' r B' m g c zs := ⟨hr, h.2.1.trans hs, ownsRow_stp (w0 := w0) h.2.2.1 hs h.2.2.2.1, h.2.2.2⟩
theorem LS.alloc (h : LS w0 w r B m g c zs) (o : Obj) : LS w0 (w.alloc o) r B m g c zs := h.step (h.1.alloc o) (Stp.of_below ((Below.refl _ _).alloc (Nat.le_refl _) o) (Nat.le_of_lt h.1.lt))
theorem LS.drew (h : LS w0 w r B m g c zs) : LS w0 w.drew r B m g c zs := h.step h.1.drew (Stp.drew' (Stp.refl _ _))
theorem LS.le (h : LS w0 w r B m g c zs) (hB : B ≤ B') : LS w0 w r B' m g c zs := ⟨h.1.le hB, h.2⟩
theorem LS.at (h : LS w0 w r B m g c zs) {k : Nat} (hk : k < m + 1) : ∃ z, 1 ≤ z ∧ z ≤ 99 ∧ zs[k]? = some z ∧ w.cell? ⟨g, k, none⟩ = some (.int .i64 z) := by
  have hl := h.2.2.2.2.1
  have hc := h.2.2.1.cellAt k (by omega)
  have hz := h.2.2.2.2.2 (zs[k]'(by omega)) (List.getElem_mem _)
  refine ⟨zs[k]'(by omega), hz.1, hz.2, List.getElem?_eq_getElem _, ?_⟩
  rw [hc, List.getElem?_map, List.getElem?_eq_getElem (by omega)]
  rfl
theorem LS.cell (h : LS w0 w r B m g c zs) {k : Nat} {z : Int} (hk : k < m + 1) (hz : zs[k]? = some z) : w.cell? ⟨g, k, none⟩ = some (.int .i64 z) := by
  obtain ⟨z', _, _, h1, h2⟩ := h.at hk
  rw [hz] at h1
  cases h1
  exact h2
theorem LS.own (h : LS w0 w r B m g c zs) : w.ownsRow w0.heap.size 3 1 (.slice (some ⟨g, 0, none⟩) (m + 1) c) (m + 1) (zs.map (Value.int .i64)) := h.2.2.1
theorem LS.glt (h : LS w0 w r B m g c zs) : w0.heap.size ≤ g ∧ g < w.heap.size ∧ m + 1 ≤ c ∧ c ≤ maxLen := by
  obtain ⟨g', c', e, h1, h2, h3, h4⟩ := own_at h.2.2.1 (by omega)
  simp only [Value.slice.injEq, Option.some.injEq, Addr.mk.injEq, and_true, true_and] at e
  obtain ⟨rfl, rfl⟩ := e
  exact ⟨h1, h2, h3, h4⟩
theorem LS.mk1 (hr : RB w r B) (hs : Stp r w0 w) (hl : r < w0.heap.size) (z : Int) (h1 : 1 ≤ z) (h2 : z ≤ 99) : LS w0 (w.alloc (.cells #[.int .i64 z] 3)) r B 0 w.heap.size 1 [z] :=
  ⟨hr.alloc _, hs.trans (Stp.of_below ((Below.refl _ _).alloc (Nat.le_refl _) _) (Nat.le_of_lt hr.lt)), own_new1 w _ _ _ hs.2.1, hl, rfl, by simp; omega⟩
end
theorem LS.app {w0 w w1 : World} {r B m g c : Nat} {zs : List Int} {o : Obj} {v' : Value} {x : Int} (h : LS w0 w r B m g c zs) (ho : w1.ownsRow w0.heap.size 3 1 v' (m + 1 + 1) (zs.map (Value.int .i64) ++ [.int .i64 x])) (hg : (w.alloc o).grownBy w1 (Value.slice (some ⟨g, 0, none⟩) (m + 1) c).ownBlock) (hx : 1 ≤ x ∧ x ≤ 99) :
    ∃ g' c', v' = .slice (some ⟨g', 0, none⟩) (m + 1 + 1) c' ∧ LS w0 w1 r B (m + 1) g' c' (zs ++ [x]) := by
  obtain ⟨g', c', rfl, _⟩ := own_at ho (by omega)
  have hgl := h.glt
  have ha := h.alloc o
  have hrow : ∀ q, (Value.slice (some ⟨g, 0, none⟩) (m + 1) c).ownBlock = some q → w0.heap.size ≤ q := fun q hq => by simp [Value.ownBlock] at hq; omega
  refine ⟨g', c', rfl, ha.1.grown hg h.2.2.2.1 (Nat.le_trans h.2.1.2.1 (by simp)) hrow, ha.2.1.grown hg (Nat.le_of_lt h.2.2.2.1) hrow, by rw [List.map_append]; exact ho, h.2.2.2.1, by simp [h.2.2.2.2.1], fun z hz => ?_⟩
  rcases List.mem_append.mp hz with hz | hz
  · exact h.2.2.2.2.2 z hz
  · simp at hz; omega
/-- one of two elements, whichever the index -/
theorem two_of {w' : World} {g : Nat} {t : TypeId} {u v x : Int} (h : Blk w' g t #[.int .i64 u, .int .i64 v]) (h0 : 0 ≤ x) (h1 : x < 2) : ∃ z, (z = u ∨ z = v) ∧ w'.cell? ⟨g, x.toNat, none⟩ = some (.int .i64 z) ∧ #[Value.int .i64 u, Value.int .i64 v][x.toNat]? = some (.int .i64 z) := by
  have c0 := h.cell 0
  have c1 := h.cell 1
  simp at c0 c1
  rcases (show x = 0 ∨ x = 1 by omega) with rfl | rfl
  · exact ⟨u, .inl rfl, c0, by simp⟩
  · exact ⟨v, .inr rfl, c1, by simp⟩
/-- a drawn list of ints as a result -/
def RI (w : World) (r B : Nat) (e : Ending) (w' : World) : Prop :=
  ∃ A n c zs, e = .returned (.slice A n c) ∧ (∀ w2, Stp r w' w2 → Ints w2 A n zs) ∧ n ≤ 7 ∧ n ≤ c ∧ c ≤ maxLen ∧ (∀ z ∈ zs, Sm z) ∧ RB w' r B ∧ Stp r w w'
theorem LS.ri {w0 w : World} {r B B' m g c : Nat} {zs : List Int} (h : LS w0 w r B m g c zs) (hm : m ≤ 6) (hB : B ≤ B') : RI w0 r B' (.returned (.slice (some ⟨g, 0, none⟩) (m + 1) c)) w :=
  ⟨_, _, _, zs, rfl, fun w2 hs => own_ints1 (ownsRow_stp (w0 := w0) h.own hs h.2.2.2.1) h.2.2.2.2.1, by omega, h.glt.2.2.1, h.glt.2.2.2, fun z hz => by have := h.2.2.2.2.2 z hz; unfold Sm; omega, h.1.le hB, h.2.1⟩
end Go.Proofs.YtoiaggjjfahabaaDoor
