/- Words on memory for this seat's texts: a block known whole, a slice that reads as a list of ints, a row of the call's own. No condition. -/
import Derived.Test.YtoiaggjjfahabaaBase
import Derived.Laws.Rows
import Derived.Deep.OwnRows
import Derived.Deep.Slices
import Derived.Deep.Draws
namespace Go.Proofs.Ytoiaggjjfahabaa
open Go.RowKit Go.ChangeShapes Go.WideShapes

def Blk (w : World) (g : Nat) (t : TypeId) (cs : Array Value) : Prop := w.heap[g]? = some (.cells cs t (0, 0))
section
variable {w w' : World} {g : Nat} {t : TypeId} {cs : Array Value}
theorem Blk.lt (h : Blk w g t cs) : g < w.heap.size := by
  rcases Nat.lt_or_ge g w.heap.size with hlt | hge
  · exact hlt
  · unfold Blk at h; rw [Array.getElem?_eq_none hge] at h; cases h
theorem Blk.cell (h : Blk w g t cs) (i : Nat) : w.cell? ⟨g, i, none⟩ = cs[i]? := cell_of_row w g i cs t (0, 0) h
theorem Blk.frozen (h : Blk w g t cs) (i : Nat) : w.frozen? ⟨g, i, none⟩ = false := by
  unfold Blk at h
  simp [World.frozen?, h]
theorem Blk.new (w : World) (t : TypeId) (cs : Array Value) : Blk (w.alloc (.cells cs t)) w.heap.size t cs := heap_alloc_new w _
theorem Blk.drew (h : Blk w g t cs) : Blk w.drew g t cs := h
theorem Blk.drewN (h : Blk w g t cs) (n : Nat) : Blk (w.drewN n) g t cs := h
theorem Blk.alloc (h : Blk w g t cs) (o : Obj) : Blk (w.alloc o) g t cs := (Below.heap_alloc w o g h.lt).trans h
theorem Blk.set_ (h : Blk w g t cs) (i : Nat) (u : Value) : Blk (w.setCell ⟨g, i, none⟩ u) g t (cs.setIfInBounds i u) := by
  unfold Blk at h ⊢
  simp [World.setCell, Array.getElem?_modify, h]
theorem Blk.far (h : Blk w g t cs) {p : Addr} (hp : g ≠ p.block) (u : Value) : Blk (w.setCell p u) g t cs := (Below.heap_setCell w p u g hp).trans h
theorem Blk.below {B : Nat} (h : Blk w g t cs) (hb : Below B w w') (hg : g < B) : Blk w' g t cs := (hb.block g hg).trans h
end

/-- a row of ints -/
def ints (zs : List Int) : Array Value := (zs.map (Value.int .i64)).toArray
theorem ints_at (zs : List Int) {k : Nat} (h : k < zs.length) : (ints zs)[k]? = some (.int .i64 (zs.getD k 0)) := by
  simp [ints, h]
theorem ints_set (zs : List Int) (k : Nat) (v : Int) : (ints zs).setIfInBounds k (.int .i64 v) = ints (zs.set k v) := by
  simp [ints, List.setIfInBounds_toArray, List.map_set]
theorem ints_made (n : Nat) : madeCells #[.int .i64 0] n = ints (List.replicate n 0) := by
  apply Array.ext
  · simp [size_madeCells, ints]
  · intro i h1 h2
    simp [madeCells, ints, Nat.mod_one]
theorem Blk.int_cell {w : World} {g : Nat} {t : TypeId} {zs : List Int} (h : Blk w g t (ints zs)) {k : Nat} (hk : k < zs.length) : w.cell? ⟨g, k, none⟩ = some (.int .i64 (zs.getD k 0)) := by
  rw [h.cell, ints_at zs hk]
theorem Blk.int_set {w : World} {g : Nat} {t : TypeId} {zs : List Int} (h : Blk w g t (ints zs)) (k : Nat) (v : Int) : Blk (w.setCell ⟨g, k, none⟩ (.int .i64 v)) g t (ints (zs.set k v)) := by
  have := h.set_ k (.int .i64 v)
  rwa [ints_set] at this

/-- the slice (A, n) reads as the ints zs -/
def Ints (w : World) (A : Option Addr) (n : Nat) (zs : List Int) : Prop :=
  zs.length = n ∧ (0 < n → ∃ b off, A = some ⟨b, off, none⟩ ∧ b < w.heap.size ∧ ∀ k, k < n → w.cell? ⟨b, off + k, none⟩ = some (.int .i64 (zs.getD k 0)))
theorem Ints.below {w w' : World} {A : Option Addr} {n : Nat} {zs : List Int} (h : Ints w A n zs) (hb : Below w.heap.size w w') : Ints w' A n zs :=
  ⟨h.1, fun hn => by
    obtain ⟨b, off, rfl, hlt, hc⟩ := h.2 hn
    exact ⟨b, off, rfl, Nat.lt_of_lt_of_le hlt hb.size, fun k hk => (hb.cell (p := ⟨b, off + k, none⟩) hlt).trans (hc k hk)⟩⟩
theorem Ints.of_blk {w : World} {g : Nat} {t : TypeId} {zs : List Int} (h : Blk w g t (ints zs)) : Ints w (some ⟨g, 0, none⟩) zs.length zs :=
  ⟨rfl, fun _ => ⟨g, 0, rfl, h.lt, fun k hk => by rw [Nat.zero_add]; exact h.int_cell hk⟩⟩
theorem Ints.of_blk' {w : World} {g n : Nat} {t : TypeId} {zs : List Int} (h : Blk w g t (ints zs)) (hn : zs.length = n) : Ints w (some ⟨g, 0, none⟩) n zs := by
  subst hn; exact Ints.of_blk h

/-- what is known of an argument of type []int (or []byte): its elements fit their kind -/
def Nums (k : IntKind) (w : World) (A : Option Addr) (n cap : Nat) (zs : List Int) : Prop :=
  n ≤ cap ∧ cap ≤ maxLen ∧ zs.length = n ∧ (0 < n → ∃ b off, A = some ⟨b, off, none⟩ ∧ b < w.heap.size ∧ ∀ i, i < n → w.cell? ⟨b, off + i, none⟩ = some (.int k (zs.getD i 0))) ∧ ∀ z ∈ zs, (Lit.int k z).wf = true
theorem Nums.ints {w : World} {A : Option Addr} {n cap : Nat} {zs : List Int} (h : Nums .i64 w A n cap zs) : Ints w A n zs := ⟨h.2.2.1, h.2.2.2.1⟩
theorem Nums.len {k : IntKind} {w : World} {A : Option Addr} {n cap : Nat} {zs : List Int} (h : Nums k w A n cap zs) : n ≤ 9223372036854775807 := by have h1 := h.1; have h2 := h.2.1; unfold maxLen at h2; omega
theorem bt {w w1 w2 : World} (h : Below w.heap.size w w1) (h' : Below w1.heap.size w1 w2) : Below w.heap.size w w2 := h.trans (h'.mono h.size)
theorem Nums.in64 {w : World} {A : Option Addr} {n cap : Nat} {zs : List Int} (h : Nums .i64 w A n cap zs) : ∀ z ∈ zs, In64 z := fun z hz => wf64 (h.2.2.2.2 z hz)
theorem nums_of_trod {H : Type} {enc : TypeId × Value → H} {P : Program} {w : World} {base : Nat} {spare : Nat → Bool} {held : Bool} {t e fuel : Nat} {k : IntKind} {A : Option Addr} {n cap : Nat} {x : DataW H × List MemPlace}
    (ht : P.underlying t = some (.slice e)) (he : P.underlying e = some (.int k)) (hc : P.cellsOf e = 1) (h : DataW.trod enc P w base spare held fuel t (Value.slice A n cap).cells.toList = some x) : ∃ zs, Nums k w A n cap zs := by
  rcases open_ints ht he hc h with ⟨hcs, _⟩ | ⟨a, l, c, zs, hcs, _, hl, hm, hz, _, hcell, hwz⟩
  · simp [Value.cells] at hcs
    obtain ⟨rfl, rfl, rfl⟩ := hcs
    exact ⟨[], Nat.le_refl _, by simp [maxLen], rfl, fun h => absurd h (by omega), by simp⟩
  · simp [Value.cells] at hcs
    obtain ⟨rfl, rfl, rfl⟩ := hcs
    have hlz : n ≤ zs.length := by split at hz <;> omega
    refine ⟨zs.take n, hl, hm, by simp [hlz], fun hn => ?_, fun z hz => hwz z (List.mem_of_mem_take hz)⟩
    obtain ⟨b, off, spot⟩ := a
    have h0 := hcell 0 (by omega)
    have hspot : spot = none := by simpa [Addr.add] using World.cell?_spot h0
    subst hspot
    refine ⟨b, off, rfl, ?_, fun i hi => ?_⟩
    · exact World.block_lt_of_cell? (a := ⟨b, off, none⟩) _ (by simpa [Addr.add] using h0)
    · have h1 := hcell i (by omega)
      have e1 : (zs.take n).getD i 0 = zs.getD i 0 := by simp [List.getD_eq_getElem?_getD, hi]
      rw [e1]
      by_cases hi0 : i = 0
      · subst hi0; simpa [Addr.add] using h1
      · simpa [Addr.add, hi0] using h1
end Go.Proofs.Ytoiaggjjfahabaa
