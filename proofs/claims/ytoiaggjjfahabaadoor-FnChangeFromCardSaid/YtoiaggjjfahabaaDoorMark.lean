/- Slices of ints in new memory, marked and held: what markIntS and heldIntS compute. No condition but the length. -/
import Derived.Test.YtoiaggjjfahabaaDoorGreedy
namespace Go.Proofs.YtoiaggjjfahabaaDoor
open Go.RowKit

/-- the slice (A, n) reads as xs, and where it has elements it is a whole block between lo and hi -/
def OwnI (w : World) (lo hi : Nat) (A : Option Addr) (n : Nat) (xs : List Int) : Prop :=
  xs.length = n ∧ (0 < n → ∃ g, A = some ⟨g, 0, none⟩ ∧ lo ≤ g ∧ g < hi ∧ Blk w g 3 (ints xs))
/-- w' is w with new blocks, and other blocks between lo and hi alone -/
structure Chg (lo hi : Nat) (w w' : World) : Prop where
  os : w'.os = w.os
  tape : w'.tape = w.tape
  output : w'.output = w.output
  size : w.heap.size ≤ w'.heap.size
  block : ∀ k, k < w.heap.size → (k < lo ∨ hi ≤ k) → w'.heap[k]? = w.heap[k]?
section
variable {w w' : World} {lo hi l h n : Nat} {A : Option Addr} {xs : List Int}
theorem OwnI.ints (a : OwnI w lo hi A n xs) : Ints w A n xs :=
  ⟨a.1, fun hn => by
    obtain ⟨g, e, _, _, hB⟩ := a.2 hn
    have := Ints.of_blk' hB a.1
    obtain ⟨b, off, e1, h1, h2⟩ := this.2 hn
    exact ⟨b, off, e.trans e1, h1, h2⟩⟩
theorem OwnI.below (a : OwnI w lo hi A n xs) (hb : Below w.heap.size w w') : OwnI w' lo hi A n xs :=
  ⟨a.1, fun hn => by
    obtain ⟨g, e, h1, h2, hB⟩ := a.2 hn
    exact ⟨g, e, h1, h2, hB.below hb hB.lt⟩⟩
theorem OwnI.chg (a : OwnI w l h A n xs) (c : Chg lo hi w w') (hd : h ≤ lo ∨ hi ≤ l) : OwnI w' l h A n xs :=
  ⟨a.1, fun hn => by
    obtain ⟨g, e, h1, h2, hB⟩ := a.2 hn
    exact ⟨g, e, h1, h2, (c.block g hB.lt (by omega)).trans hB⟩⟩
theorem Chg.below {B : Nat} (c : Chg lo hi w w') (hB : B ≤ lo) (hs : B ≤ w.heap.size) : Below B w w' :=
  ⟨c.os, c.tape, c.output, c.size, fun k hk => c.block k (by omega) (by omega)⟩
theorem Chg.of_set {p : Addr} (u : Value) (h1 : lo ≤ p.block) (h2 : p.block < hi) {a : World} (c : Chg lo hi a w) : Chg lo hi a (w.setCell p u) :=
  ⟨c.os, c.tape, c.output, by have := c.size; simpa [World.setCell] using this, fun k hk hd => (Below.heap_setCell w p u k (by omega)).trans (c.block k hk hd)⟩
theorem Chg.refl : Chg lo hi w w := ⟨rfl, rfl, rfl, Nat.le_refl _, fun _ _ _ => rfl⟩
theorem ResI.own {ok : Bool} {e : Ending} (r : ResI w xs ok e w') : ∃ A c, e = .returned (.tuple #[.slice A xs.length c, .bool ok]) ∧ OwnI w' w.heap.size w'.heap.size A xs.length xs ∧ Below w.heap.size w w' := by
  obtain ⟨A, c, e1, h1, h2, h3⟩ := r
  refine ⟨A, c, e1, ⟨rfl, fun hn => ?_⟩, h3⟩
  obtain ⟨g, e2, h4, h5⟩ := h2 hn
  exact ⟨g, e2, h4, h5.lt, h5⟩
end
def MadeO (w : World) (n : Nat) (zs : List Int) (e : Ending) (w' : World) : Prop :=
  ∃ A, e = .returned (.slice A n n) ∧ OwnI w' w.heap.size w'.heap.size A n zs ∧ Below w.heap.size w w'
def marks (k : Int) (n : Nat) : List Int := (List.range n).map fun i : Nat => k + (i : Int)
theorem marks_len (k : Int) (n : Nat) : (marks k n).length = n := by simp [marks]
theorem marks_at (k : Int) (n i : Nat) (h : i < n) : (marks k n)[i]?.getD 0 = k + i := by simp [marks, h]
theorem mark_set (k : Int) (n j : Nat) (xs : List Int) (hx : xs.length = n) (hj : j < n) : ((marks k n).take j ++ xs.drop j).set j (k + j) = (marks k n).take (j + 1) ++ xs.drop (j + 1) := by
  have hl : ((marks k n).take j).length = j := by simp [marks_len]; omega
  have hm : j < (marks k n).length := by rw [marks_len]; exact hj
  have hv : (marks k n)[j] = k + j := by simp [marks]
  rw [List.set_append_right _ _ (by omega), hl, Nat.sub_self, List.drop_eq_getElem_cons (by omega), List.set_cons_zero, List.take_succ_eq_append_getElem hm, hv, List.append_assoc]
  rfl
def MarkEnd (w : World) (lo hi : Nat) (A : Option Addr) (n : Nat) (k : Int) (e : Ending) (w' : World) : Prop :=
  e = .returned (.int .i64 (k + n)) ∧ OwnI w' lo hi A n (marks k n) ∧ Chg lo hi w w'
end Go.Proofs.YtoiaggjjfahabaaDoor
