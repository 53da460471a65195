/- CoinsGreedy: what it computes, of the program and of the reference; results that are a new slice of ints and a bool. No condition but the length. -/
import Derived.Test.YtoiaggjjfahabaaCoin
namespace Go.Proofs.Ytoiaggjjfahabaa
open Go.RowKit

/-- a result ([]int, bool): the slice reads as xs and lies in new memory -/
def ResI (w : World) (xs : List Int) (ok : Bool) (e : Ending) (w' : World) : Prop :=
  ∃ A c, e = .returned (.tuple #[.slice A xs.length c, .bool ok]) ∧ Ints w' A xs.length xs ∧ (0 < xs.length → ∃ g, A = some ⟨g, 0, none⟩ ∧ w.heap.size ≤ g ∧ Blk w' g 3 (ints xs)) ∧ Below w.heap.size w w'
/-- what is left of the amount when the last j kinds have been taken -/
def gl (zs : List Int) (a : Int) : Nat → Int
  | 0 => a
  | j + 1 => gl zs a j % zs[zs.length - 1 - j]?.getD 0
def gm (zs : List Int) (a : Int) : List Int := (List.range zs.length).map fun i => gl zs a (zs.length - 1 - i) / zs[i]?.getD 0
def gOk (zs : List Int) (a : Int) : Bool := decide (cv zs = true ∧ 0 ≤ a ∧ a ≤ 300 ∧ gl zs a zs.length ≤ 0)
def gV (zs : List Int) (a : Int) : List Int := if gOk zs a = true then gm zs a else []
theorem gm_len (zs : List Int) (a : Int) : (gm zs a).length = zs.length := by simp [gm]
theorem gm_at (zs : List Int) (a : Int) (i : Nat) (h : i < zs.length) : (gm zs a)[i]? = some (gl zs a (zs.length - 1 - i) / zs[i]?.getD 0) := by
  simp [gm, h]
theorem gl_bd (zs : List Int) (a : Int) (h0 : 0 ≤ a) (h1 : a ≤ 300) (hz : ∀ i, i < zs.length → 1 ≤ zs[i]?.getD 0 ∧ zs[i]?.getD 0 ≤ 99) (j : Nat) (hj : j ≤ zs.length) : 0 ≤ gl zs a j ∧ gl zs a j ≤ 300 := by
  induction j with
  | zero => exact ⟨h0, h1⟩
  | succ j ih =>
    have i1 := ih (by omega)
    have i2 := hz (zs.length - 1 - j) (by omega)
    unfold gl
    have b1 := Int.emod_nonneg (gl zs a j) (show zs[zs.length - 1 - j]?.getD 0 ≠ 0 by omega)
    have b2 := Int.emod_lt_of_pos (gl zs a j) (show 0 < zs[zs.length - 1 - j]?.getD 0 by omega)
    omega
def gRow (zs : List Int) (a : Int) (j : Nat) : List Int := List.replicate (zs.length - j) 0 ++ (gm zs a).drop (zs.length - j)
theorem gRow_len (zs : List Int) (a : Int) (j : Nat) (hj : j ≤ zs.length) : (gRow zs a j).length = zs.length := by simp [gRow, gm_len]
theorem gRow_set (zs : List Int) (a : Int) (j : Nat) (hj : j < zs.length) : (gRow zs a j).set (zs.length - 1 - j) (gl zs a j / zs[zs.length - 1 - j]?.getD 0) = gRow zs a (j + 1) := by
  have e1 : zs.length - j = zs.length - 1 - j + 1 := by omega
  have e2 : zs.length - (j + 1) = zs.length - 1 - j := by omega
  have hd : (gm zs a).drop (zs.length - 1 - j) = (gl zs a j / zs[zs.length - 1 - j]?.getD 0) :: (gm zs a).drop (zs.length - 1 - j + 1) := by
    have hl : zs.length - 1 - j < (gm zs a).length := by rw [gm_len]; omega
    rw [List.drop_eq_getElem_cons hl]
    congr 1
    have := gm_at zs a (zs.length - 1 - j) (by omega)
    rw [List.getElem?_eq_getElem hl, show zs.length - 1 - (zs.length - 1 - j) = j by omega] at this
    exact Option.some.inj this
  unfold gRow
  rw [e2, hd, e1, List.replicate_succ', List.append_assoc, List.set_append_right _ _ (by simp)]
  simp
theorem gRow_last (zs : List Int) (a : Int) : gRow zs a zs.length = gm zs a := by simp [gRow]
theorem gV_no {zs : List Int} {a : Int} (h : ¬ (cv zs = true ∧ 0 ≤ a ∧ a ≤ 300)) : gV zs a = [] ∧ gOk zs a = false := by
  have : gOk zs a = false := by unfold gOk; rw [decide_eq_false_iff_not]; rintro ⟨g1, g2, g3, _⟩; exact h ⟨g1, g2, g3⟩
  exact ⟨by simp [gV, this], this⟩
theorem ResI.nil (w w' : World) (c : Nat) (A : Option Addr) (ok : Bool) (hb : Below w.heap.size w w') : ResI w [] ok (.returned (.tuple #[.slice A 0 c, .bool ok])) w' :=
  ⟨A, c, rfl, ⟨rfl, fun h => absurd h (by simp)⟩, fun h => absurd h (by simp), hb⟩
end Go.Proofs.Ytoiaggjjfahabaa
