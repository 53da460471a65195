/- Rows of ints of the call's own beside a list that was drawn: what a step of memory keeps. No condition. -/
import Derived.Test.YtoiaggjjfahabaaDoorLS
import Derived.Test.YtoiaggjjfahabaaDoorQuad
namespace Go.Proofs.YtoiaggjjfahabaaDoor
open Go.RowKit
set_option linter.unusedVariables false
theorem nw_lt {w : World} {g : Nat} (h : g < w.heap.size) (o : Obj) : g < (w.alloc o).heap.size := by simp; omega
theorem nw_cell {w : World} {g : Nat} (h : g < w.heap.size) (i : Nat) (o : Obj) : (w.alloc o).cell? ⟨g, i, none⟩ = w.cell? ⟨g, i, none⟩ := ((Below.refl w.heap.size w).alloc (Nat.le_refl _) o).cell (p := ⟨g, i, none⟩) h
theorem nw_keep {w : World} {g i : Nat} {v : Option Value} (h : g < w.heap.size) (d : w.cell? ⟨g, i, none⟩ = v) (o : Obj) : (w.alloc o).cell? ⟨g, i, none⟩ = v := (nw_cell h i o).trans d
theorem nw_new0r (w : World) (e s : Nat) (o : Obj) : ((w.alloc o).alloc (.cells #[] e)).ownsRow w.heap.size e s (.slice (some ⟨w.heap.size + 1, 0, none⟩) 0 0) 0 [] := by
  have : ((w.alloc o).alloc (.cells #[] e)).ownsRow w.heap.size e s (.slice (some ⟨(w.alloc o).heap.size, 0, none⟩) 0 0) 0 [] :=
    ⟨by simp, .inr ⟨(w.alloc o).heap.size, 0, #[], rfl, by simp, heap_alloc_new (w.alloc o) _, Nat.le_refl _, by simp [maxLen], by simp, by simp⟩⟩
  rwa [show (w.alloc o).heap.size = w.heap.size + 1 by simp] at this
theorem nw_new0 (w : World) (base e s : Nat) (hb : base ≤ w.heap.size) : (w.alloc (.cells #[] e)).ownsRow base e s (.slice (some ⟨w.heap.size, 0, none⟩) 0 0) 0 [] :=
  ⟨by simp, .inr ⟨w.heap.size, 0, #[], rfl, hb, heap_alloc_new w _, Nat.le_refl _, by simp [maxLen], by simp, by simp⟩⟩
/-- the elements of a list as cells behind an address -/
def NewsI (w : World) (b off : Nat) (zs : List Int) : Prop := ∀ j u, (zs.map (Value.int .i64))[j]? = some u → w.cell? ((⟨b, off, none⟩ : Addr).add j) = some u
theorem Ints.news {w : World} {b off n : Nat} {zs : List Int} (h : Ints w (some ⟨b, off, none⟩) n zs) : NewsI w b off zs := by
  intro j u hj
  have hlt : j < zs.length := by
    rcases Nat.lt_or_ge j zs.length with g | g
    · exact g
    · rw [List.getElem?_eq_none (by simp; omega)] at hj; cases hj
  have hl := h.1
  obtain ⟨b', o', e, _, hc⟩ := h.2 (by omega)
  simp only [Option.some.injEq, Addr.mk.injEq, and_true] at e
  obtain ⟨rfl, rfl⟩ := e
  have := hc j (by omega)
  rw [List.getElem?_map, List.getElem?_eq_getElem hlt] at hj
  rw [List.getD_eq_getElem?_getD, List.getElem?_eq_getElem hlt] at this
  rw [add_none, this]
  simpa using hj
theorem news_one (w : World) (e : Nat) (q : Int) : NewsI (w.alloc (.cells #[.int .i64 q] e)) w.heap.size 0 [q] := by
  intro j u hj
  have h := (Blk.new w e #[.int .i64 q]).cell j
  rw [add_none, Nat.zero_add, h]
  simpa using hj
theorem NewsI.below {w w' : World} {b off : Nat} {zs : List Int} (h : NewsI w b off zs) (hb : Below w.heap.size w w') (hl : b < w.heap.size) : NewsI w' b off zs := fun j u hj => by
  have := h j u hj
  rw [add_none] at this ⊢
  exact (hb.cell (p := ⟨b, off + j, none⟩) hl).trans this
theorem NewsI.alloc {w : World} {b off : Nat} {zs : List Int} (h : NewsI w b off zs) (hl : b < w.heap.size) (o : Obj) : NewsI (w.alloc o) b off zs := h.below ((Below.refl _ _).alloc (Nat.le_refl _) o) hl
theorem NewsI.grown {w w' : World} {b off : Nat} {zs : List Int} {row : Option Nat} (h : NewsI w b off zs) (hb : b < w.heap.size) (hg : w.grownBy w' row) (hr : ∀ q, row = some q → b ≠ q) : NewsI w' b off zs := fun j u hj => by
  have e1 : w'.heap[b]? = w.heap[b]? := hg.block b hb (fun e => hr b e.symm rfl)
  have := h j u hj
  rw [add_none] at this ⊢
  exact (World.cell?_of_block (a := ⟨b, off + j, none⟩) e1).trans this
theorem one_ints (zs : List Int) : ∀ u ∈ zs.map (Value.int .i64), u.oneCell' = true := by
  intro u hu
  obtain ⟨z, _, rfl⟩ := List.mem_map.mp hu
  rfl
theorem Ints.grown {w w' : World} {b off n : Nat} {zs : List Int} {row : Option Nat} (h : Ints w (some ⟨b, off, none⟩) n zs) (hg : w.grownBy w' row) (hr : ∀ q, row = some q → b ≠ q) : Ints w' (some ⟨b, off, none⟩) n zs := by
  refine ⟨h.1, fun hn => ?_⟩
  obtain ⟨b', o', e, hl, hc⟩ := h.2 hn
  simp only [Option.some.injEq, Addr.mk.injEq, and_true] at e
  obtain ⟨rfl, rfl⟩ := e
  have e1 : w'.heap[b]? = w.heap[b]? := hg.block b hl (fun e => hr b e.symm rfl)
  exact ⟨b, off, rfl, Nat.lt_of_lt_of_le hl hg.size, fun k hk => (World.cell?_of_block (a := ⟨b, off + k, none⟩) e1).trans (hc k hk)⟩
theorem Ints.cellx {w : World} {b off n : Nat} {zs : List Int} (h : Ints w (some ⟨b, off, none⟩) n zs) (i : Nat) (hi : i < n) : w.cell? ⟨b, off + i, none⟩ = some (.int .i64 (zs.getD i 0)) ∧ b < w.heap.size := by
  obtain ⟨b', o', e, hl, hc⟩ := h.2 (by omega)
  simp only [Option.some.injEq, Addr.mk.injEq, and_true] at e
  obtain ⟨rfl, rfl⟩ := e
  exact ⟨hc i hi, hl⟩
theorem Ints.drop {w : World} {b off n k : Nat} {zs : List Int} (h : Ints w (some ⟨b, off, none⟩) n zs) (hk : k ≤ n) : Ints w (some ⟨b, off + k, none⟩) (n - k) (zs.drop k) := by
  refine ⟨by rw [List.length_drop, h.1], fun hn => ?_⟩
  obtain ⟨b', o', e, hl, hc⟩ := h.2 (by omega)
  simp only [Option.some.injEq, Addr.mk.injEq, and_true] at e
  obtain ⟨rfl, rfl⟩ := e
  refine ⟨b, off + k, rfl, hl, fun j hj => ?_⟩
  have := hc (k + j) (by omega)
  rw [← Nat.add_assoc] at this
  rw [this]
  simp [List.getD_eq_getElem?_getD, List.getElem?_drop]
theorem Ints.nil (w : World) (A : Option Addr) : Ints w A 0 [] := ⟨rfl, fun h => absurd h (by omega)⟩
theorem Ints.addr {w : World} {A : Option Addr} {n : Nat} {zs : List Int} (h : Ints w A n zs) (hn : 0 < n) : ∃ b off, A = some ⟨b, off, none⟩ := by
  obtain ⟨b, off, e, _⟩ := h.2 hn; exact ⟨b, off, e⟩
theorem opN (A : Option Addr) (n cap : Nat) (zs : List Int) (w : World) (h : Nums .u8 w A n cap zs) (hn : n ≤ 1048576) :
    Calls Tryd.prog 48 #[.slice A n cap] w fun e w' => e = .returned (.pointer (some ⟨w.heap.size, 0, none⟩)) ∧ RB w' w.heap.size 0 ∧ Below w.heap.size w w' ∧ w.heap.size < w'.heap.size := op w.heap.size A n cap zs w h hn rfl
theorem Nums.kept {k : IntKind} {w w' : World} {A : Option Addr} {n cap : Nat} {zs : List Int} (h : Nums k w A n cap zs) (hb : Below w.heap.size w w') : Nums k w' A n cap zs := by
  obtain ⟨h1, h2, h3, h4, h5⟩ := h
  refine ⟨h1, h2, h3, fun hn => ?_, h5⟩
  obtain ⟨b, off, rfl, hlt, hc⟩ := h4 hn
  exact ⟨b, off, rfl, Nat.lt_of_lt_of_le hlt hb.size, fun k hk => (hb.cell (p := ⟨b, off + k, none⟩) hlt).trans (hc k hk)⟩
/-- a drawn list of ints behind the reader's calls -/
def DI (w : World) (A : Option Addr) (n c : Nat) (zs : List Int) (w' : World) : Prop := Ints w' A n zs ∧ n ≤ 9 ∧ n ≤ c ∧ c ≤ maxLen ∧ (∀ z ∈ zs, -1000000 ≤ z ∧ z ≤ 1000000) ∧ Below w.heap.size w w'
end Go.Proofs.YtoiaggjjfahabaaDoor
