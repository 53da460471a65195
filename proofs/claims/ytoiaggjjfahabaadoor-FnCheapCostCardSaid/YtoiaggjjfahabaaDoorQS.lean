/- Drawn lists of bookings: a row of structs of the call's own beside the reader. No condition. -/
import Derived.Test.YtoiaggjjfahabaaDoorLS
import Derived.Test.YtoiaggjjfahabaaDoorQuad
namespace Go.Proofs.YtoiaggjjfahabaaDoor
open Go.RowKit
set_option linter.unusedVariables false
theorem own_books {w : World} {base n e g cap : Nat} {qs : List Quad} (h : w.ownsRow base e 4 (.slice (some ⟨g, 0, none⟩) n cap) n (qs.flatMap Quad.cells)) (hq : qs.length = n) : Books w (some ⟨g, 0, none⟩) n qs := by
  refine ⟨hq, fun hn => ⟨g, 0, rfl, ?_, fun k hk => ?_⟩⟩
  · obtain ⟨g', c', e1, _, h2, _⟩ := own_at h hn
    simp only [Value.slice.injEq, Option.some.injEq, Addr.mk.injEq, and_true, true_and] at e1
    rw [e1.1]; exact h2
  · obtain ⟨b0, b1, b2, b3⟩ := bks_at qs k (by omega)
    unfold bks at b0 b1 b2 b3
    rw [List.getElem?_toArray] at b0 b1 b2 b3
    have c0 := h.cells rfl _ _ b0
    have c1 := h.cells rfl _ _ b1
    have c2 := h.cells rfl _ _ b2
    have c3 := h.cells rfl _ _ b3
    rw [add_none] at c0 c1 c2 c3
    exact ⟨c0, by rw [← Nat.add_assoc] at c1; exact c1, by rw [← Nat.add_assoc] at c2; exact c2, by rw [← Nat.add_assoc] at c3; exact c3⟩
theorem own_new0q (w : World) (base e s : Nat) (hb : base ≤ w.heap.size) : (w.alloc (.cells #[] e)).ownsRow base e s (.slice (some ⟨w.heap.size, 0, none⟩) 0 0) 0 [] :=
  ⟨by simp, .inr ⟨w.heap.size, 0, #[], rfl, hb, heap_alloc_new w _, Nat.le_refl _, by simp [maxLen], by simp, by simp⟩⟩
theorem own_newq (w : World) (base e : Nat) (qs : List Quad) (n : Nat) (hn : qs.length = n) (hm : n ≤ maxLen) (hb : base ≤ w.heap.size) : (w.alloc (.cells (bks qs) e)).ownsRow base e 4 (.slice (some ⟨w.heap.size, 0, none⟩) n n) n (qs.flatMap Quad.cells) := by
  have hl : (qs.flatMap Quad.cells).length = n * 4 := by
    subst hn
    clear hm
    induction qs with
    | nil => rfl
    | cons q qs ih => rw [List.flatMap_cons, List.length_append, ih]; simp [Quad.cells]; omega
  exact ⟨hl, .inr ⟨w.heap.size, n, bks qs, rfl, hb, heap_alloc_new w _, Nat.le_refl _, hm, by simp only [bks, List.size_toArray, hl], by simp only [bks]; exact List.take_of_length_le (Nat.le_of_eq hl)⟩⟩
theorem step_append_own {P : Program} {ops : Array Oper} {o : Oper} {a : Act} {w : World} {K : Act → World → Prop} {Q : Exit → Act → World → Prop} {E : Prop}
    (hw : Region.wanted o (yielded ops a.tmps) = true) (s x : Operand) (t : TypeId)
    (ho : o.op = .call { callee := .builtin .append, args := #[s, x], argTypes := #[t, t] })
    (base : Nat) (e : TypeId) (i : TypeInfo) (z : Value) (size bytes : Nat) (ht : P.underlying t = some (.slice e)) (hi : P.info? e = some i) (hz : i.zero = some z)
    (hsize : i.size = size) (hby : i.bytes = bytes) (hzs : z.cells.size = size) (hsz : 0 < size)
    (v : Value) (n : Nat) (xs : List Value) (hs : a.eval s = v) (hown : w.ownsRow base e size v n xs)
    (ad : Addr) (m c : Nat) (news : List Value) (hx : a.eval x = .slice (some ad) m c) (hl : news.length = m * size) (hnews : ∀ j u, news[j]? = some u → w.cell? (ad.add j) = some u) (h1 : ∀ u ∈ news, u.oneCell' = true)
    (h63 : n + m ≤ maxLen) (hbytes : (n + m) * bytes ≤ 140737488355328) (hbase : base ≤ w.heap.size)
    (h : ∀ v' w', w'.ownsRow base e size v' (n + m) (xs ++ news) → w.grownBy w' v.ownBlock → (v' = .slice none 0 0 ↔ v = .slice none 0 0 ∧ m = 0) → K (a.put o.dst v') w') :
    if Region.wanted o (yielded ops a.tmps) = true then Oper.wp P o a w K Q else E := by
  rw [if_pos hw]
  exact wp_append_own w s x t ho base e i z size bytes ht hi hz hsize hby hzs hsz v n xs hs hown ad m c news hx hl hnews h1 h63 hbytes hbase h
theorem cells_newq (w : World) (t : TypeId) (q : Quad) : ∀ j u, q.cells[j]? = some u → (w.alloc (.cells #[.int .i64 q.a, .int .i64 q.b, .int .i64 q.c, .int .i64 q.d] t)).cell? ((⟨w.heap.size, 0, none⟩ : Addr).add j) = some u := by
  intro j u hj
  have h := (Blk.new w t #[.int .i64 q.a, .int .i64 q.b, .int .i64 q.c, .int .i64 q.d]).cell j
  rw [add_none, Nat.zero_add, h]
  simpa [Quad.cells] using hj
theorem one_cells (qs : List Quad) : ∀ u ∈ qs.flatMap Quad.cells, u.oneCell' = true := by
  intro u hu
  obtain ⟨q, _, hq⟩ := List.mem_flatMap.mp hu
  simp only [Quad.cells, List.mem_cons, List.not_mem_nil, or_false] at hq
  rcases hq with rfl | rfl | rfl | rfl <;> rfl
theorem len_cells (qs : List Quad) : (qs.flatMap Quad.cells).length = qs.length * 4 := by
  induction qs with
  | nil => rfl
  | cons q qs ih => rw [List.flatMap_cons, List.length_append, ih]; simp [Quad.cells]; omega
theorem drop_cells (qs : List Quad) (k : Nat) : (qs.flatMap Quad.cells).drop (k * 4) = (qs.drop k).flatMap Quad.cells := by
  induction k generalizing qs with
  | zero => simp
  | succ k ih =>
    cases qs with
    | nil => simp
    | cons q qs =>
      rw [List.flatMap_cons, show (k + 1) * 4 = k * 4 + 1 + 1 + 1 + 1 by omega]
      simp only [Quad.cells, List.cons_append, List.nil_append, List.drop_succ_cons]
      exact ih qs
theorem own_tail {w : World} {base n e g cap : Nat} {qs : List Quad} (h : w.ownsRow base e 4 (.slice (some ⟨g, 0, none⟩) n cap) n (qs.flatMap Quad.cells)) (k : Nat) : ∀ j u, ((qs.drop k).flatMap Quad.cells)[j]? = some u → w.cell? ((⟨g, k * 4, none⟩ : Addr).add j) = some u := by
  intro j u hj
  rw [← drop_cells, List.getElem?_drop] at hj
  have := h.cells rfl _ _ hj
  rw [add_none] at this ⊢
  rwa [Nat.zero_add] at this
def SmQ (q : Quad) : Prop := Sm q.a ∧ Sm q.b ∧ Sm q.c ∧ Sm q.d
/-- the state of a drawn list of bookings: n of them, in block g -/
def QS (t : TypeId) (w0 w : World) (r B n g c : Nat) (qs : List Quad) : Prop :=
  RB w r B ∧ Stp r w0 w ∧ w.ownsRow w0.heap.size t 4 (.slice (some ⟨g, 0, none⟩) n c) n (qs.flatMap Quad.cells) ∧ r < w0.heap.size ∧ qs.length = n ∧ (∀ q ∈ qs, SmQ q) ∧ w0.heap.size ≤ g ∧ n ≤ c ∧ c ≤ maxLen
section
variable {t : TypeId} {w0 w w' : World} {r B B' n g c : Nat} {qs : List Quad}
theorem QS.rb (h : QS t w0 w r B n g c qs) : RB w r B := h.1
theorem QS.own (h : QS t w0 w r B n g c qs) : w.ownsRow w0.heap.size t 4 (.slice (some ⟨g, 0, none⟩) n c) n (qs.flatMap Quad.cells) := h.2.2.1
theorem QS.step (h : QS t w0 w r B n g c qs) (hr : RB w' r B') (hs : Stp r w w') : QS t w0 w' r B' n g c qs := ⟨hr, h.2.1.trans hs, ownsRow_stp (w0 := w0) h.2.2.1 hs h.2.2.2.1, h.2.2.2⟩
theorem QS.alloc (h : QS t w0 w r B n g c qs) (o : Obj) : QS t w0 (w.alloc o) r B n g c qs := h.step (h.1.alloc o) (Stp.of_below ((Below.refl _ _).alloc (Nat.le_refl _) o) (Nat.le_of_lt h.1.lt))
theorem QS.drew (h : QS t w0 w r B n g c qs) : QS t w0 w.drew r B n g c qs := h.step h.1.drew (Stp.drew' (Stp.refl _ _))
theorem QS.le (h : QS t w0 w r B n g c qs) (hB : B ≤ B') : QS t w0 w r B' n g c qs := ⟨h.1.le hB, h.2⟩
theorem QS.mk0 (hr : RB w r B) (hs : Stp r w0 w) (hl : r < w0.heap.size) : QS t w0 (w.alloc (.cells #[] t)) r B 0 w.heap.size 0 [] :=
  ⟨hr.alloc _, hs.trans (Stp.of_below ((Below.refl _ _).alloc (Nat.le_refl _) _) (Nat.le_of_lt hr.lt)), own_new0q w _ _ _ hs.2.1, hl, rfl, by simp, hs.2.1, Nat.le_refl _, by simp [maxLen]⟩
theorem QS.app {w1 : World} {o : Obj} {v' : Value} {q : Quad} (h : QS t w0 w r B n g c qs) (ho : w1.ownsRow w0.heap.size t 4 v' (n + 1) (qs.flatMap Quad.cells ++ q.cells)) (hg : (w.alloc o).grownBy w1 (Value.slice (some ⟨g, 0, none⟩) n c).ownBlock) (hx : SmQ q) :
    ∃ g' c', v' = .slice (some ⟨g', 0, none⟩) (n + 1) c' ∧ QS t w0 w1 r B (n + 1) g' c' (qs ++ [q]) := by
  obtain ⟨g', c', rfl, e1, e2, e3, e4⟩ := own_at ho (by omega)
  have ha := h.alloc o
  have hrow : ∀ q, (Value.slice (some ⟨g, 0, none⟩) n c).ownBlock = some q → w0.heap.size ≤ q := fun q hq => by have := h.2.2.2.2.2.2.1; simp [Value.ownBlock] at hq; omega
  refine ⟨g', c', rfl, ha.1.grown hg h.2.2.2.1 (Nat.le_trans h.2.1.2.1 (by simp)) hrow, ha.2.1.grown hg (Nat.le_of_lt h.2.2.2.1) hrow, by rw [List.flatMap_append]; simpa using ho, h.2.2.2.1, by simp [h.2.2.2.2.1], fun z hz => ?_, e1, e3, e4⟩
  rcases List.mem_append.mp hz with hz | hz
  · exact h.2.2.2.2.2.1 z hz
  · simp at hz; subst hz; exact hx
end
/-- a drawn list of bookings as a result -/
def RQ (w : World) (r B : Nat) (e : Ending) (w' : World) : Prop :=
  ∃ g n c qs, e = .returned (.slice (some ⟨g, 0, none⟩) n c) ∧ (∀ w2, Stp r w' w2 → Books w2 (some ⟨g, 0, none⟩) n qs) ∧ n ≤ 9 ∧ n ≤ c ∧ c ≤ maxLen ∧ (∀ q ∈ qs, SmQ q) ∧ RB w' r B ∧ Stp r w w'
theorem QS.rq {t : TypeId} {w0 w : World} {r B B' n g c : Nat} {qs : List Quad} (h : QS t w0 w r B n g c qs) (hm : n ≤ 9) (hB : B ≤ B') : RQ w0 r B' (.returned (.slice (some ⟨g, 0, none⟩) n c)) w :=
  ⟨_, _, _, qs, rfl, fun w2 hs => own_books (ownsRow_stp (w0 := w0) h.own hs h.2.2.2.1) h.2.2.2.2.1, hm, h.2.2.2.2.2.2.2.1, h.2.2.2.2.2.2.2.2, h.2.2.2.2.2.1, h.1.le hB, h.2.1⟩
/-- a new row of bookings behind which a slice was appended -/
theorem RQ.grown {t : TypeId} {w0 w w1 : World} {r B B' n g c m : Nat} {qs ps : List Quad} {o : Obj} {v v' : Value} (h : QS t w0 w r B n g c qs) (ho : w1.ownsRow w0.heap.size t 4 v' m (ps.flatMap Quad.cells)) (hg : (w.alloc o).grownBy w1 v.ownBlock) (hv : v.ownBlock = some w.heap.size) (hm0 : 0 < m) (hm : m ≤ 9) (hpl : ps.length = m) (hps : ∀ q ∈ ps, SmQ q) (hB : B ≤ B') :
    ∃ g' c', v' = .slice (some ⟨g', 0, none⟩) m c' ∧ RQ w0 r B' (.returned (.slice (some ⟨g', 0, none⟩) m c')) w1 := by
  obtain ⟨g', c', rfl, e1, e2, e3, e4⟩ := own_at ho hm0
  have ha := h.alloc o
  have hrow : ∀ q, v.ownBlock = some q → w0.heap.size ≤ q := fun q hq => by rw [hv] at hq; have := h.2.1.2.1; simp at hq; omega
  exact ⟨g', c', rfl, _, _, _, ps, rfl, fun w2 hs => own_books (ownsRow_stp (w0 := w0) ho hs h.2.2.2.1) hpl, hm, e3, e4, hps, (ha.1.grown hg h.2.2.2.1 (Nat.le_trans h.2.1.2.1 (by simp)) hrow).le hB, ha.2.1.grown hg (Nat.le_of_lt h.2.2.2.1) hrow⟩
end Go.Proofs.YtoiaggjjfahabaaDoor
