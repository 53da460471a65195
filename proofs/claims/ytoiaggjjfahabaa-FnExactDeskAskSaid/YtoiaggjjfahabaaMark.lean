/- Slices of ints in new memory, marked and held: what markIntS and heldIntS compute. No condition but the length. -/
import Derived.Test.YtoiaggjjfahabaaGreedy
namespace Go.Proofs.Ytoiaggjjfahabaa
open Go.RowKit

/-- the slice (A, n) reads as xs, and where it has elements it is a whole block between lo and hi -/
def OwnI (w : World) (lo hi : Nat) (A : Option Addr) (n : Nat) (xs : List Int) : Prop :=
  xs.length = n ∧ (0 < n → ∃ g, A = some ⟨g, 0, none⟩ ∧ lo ≤ g ∧ g < hi ∧ Blk w g 3 (ints xs))
/-- w' is w with new blocks, and other blocks between lo and hi alone -/
structure Chg (lo hi : Nat) (w w' : World) : Prop where
  os : w'.os = w.os
  tape : w'.tape = w.tape
  output : w'.output = w.output
  size : w.heap.size ≤ w'.heap.size
  block : ∀ k, k < w.heap.size → (k < lo ∨ hi ≤ k) → w'.heap[k]? = w.heap[k]?
section
variable {w w' : World} {lo hi l h n : Nat} {A : Option Addr} {xs : List Int}
theorem OwnI.ints (a : OwnI w lo hi A n xs) : Ints w A n xs :=
  ⟨a.1, fun hn => by
    obtain ⟨g, e, _, _, hB⟩ := a.2 hn
    have := Ints.of_blk' hB a.1
    obtain ⟨b, off, e1, h1, h2⟩ := this.2 hn
    exact ⟨b, off, e.trans e1, h1, h2⟩⟩
theorem OwnI.below (a : OwnI w lo hi A n xs) (hb : Below w.heap.size w w') : OwnI w' lo hi A n xs :=
  ⟨a.1, fun hn => by
    obtain ⟨g, e, h1, h2, hB⟩ := a.2 hn
    exact ⟨g, e, h1, h2, hB.below hb hB.lt⟩⟩
theorem OwnI.chg (a : OwnI w l h A n xs) (c : Chg lo hi w w') (hd : h ≤ lo ∨ hi ≤ l) : OwnI w' l h A n xs :=
  ⟨a.1, fun hn => by
    obtain ⟨g, e, h1, h2, hB⟩ := a.2 hn
    exact ⟨g, e, h1, h2, (c.block g hB.lt (by omega)).trans hB⟩⟩
theorem Chg.below {B : Nat} (c : Chg lo hi w w') (hB : B ≤ lo) (hs : B ≤ w.heap.size) : Below B w w' :=
  ⟨c.os, c.tape, c.output, c.size, fun k hk => c.block k (by omega) (by omega)⟩
theorem Chg.of_set {p : Addr} (u : Value) (h1 : lo ≤ p.block) (h2 : p.block < hi) {a : World} (c : Chg lo hi a w) : Chg lo hi a (w.setCell p u) :=
  ⟨c.os, c.tape, c.output, by have := c.size; simpa [World.setCell] using this, fun k hk hd => (Below.heap_setCell w p u k (by omega)).trans (c.block k hk hd)⟩
theorem Chg.refl : Chg lo hi w w := ⟨rfl, rfl, rfl, Nat.le_refl _, fun _ _ _ => rfl⟩
theorem ResI.own {ok : Bool} {e : Ending} (r : ResI w xs ok e w') : ∃ A c, e = .returned (.tuple #[.slice A xs.length c, .bool ok]) ∧ OwnI w' w.heap.size w'.heap.size A xs.length xs ∧ Below w.heap.size w w' := by
  obtain ⟨A, c, e1, h1, h2, h3⟩ := r
  refine ⟨A, c, e1, ⟨rfl, fun hn => ?_⟩, h3⟩
  obtain ⟨g, e2, h4, h5⟩ := h2 hn
  exact ⟨g, e2, h4, h5.lt, h5⟩
end
def MadeO (w : World) (n : Nat) (zs : List Int) (e : Ending) (w' : World) : Prop :=
  ∃ A, e = .returned (.slice A n n) ∧ OwnI w' w.heap.size w'.heap.size A n zs ∧ Below w.heap.size w w'
def marks (k : Int) (n : Nat) : List Int := (List.range n).map fun i : Nat => k + (i : Int)
theorem marks_len (k : Int) (n : Nat) : (marks k n).length = n := by simp [marks]
theorem marks_at (k : Int) (n i : Nat) (h : i < n) : (marks k n)[i]?.getD 0 = k + i := by simp [marks, h]
theorem mark_set (k : Int) (n j : Nat) (xs : List Int) (hx : xs.length = n) (hj : j < n) : ((marks k n).take j ++ xs.drop j).set j (k + j) = (marks k n).take (j + 1) ++ xs.drop (j + 1) := by
  have hl : ((marks k n).take j).length = j := by simp [marks_len]; omega
  have hm : j < (marks k n).length := by rw [marks_len]; exact hj
  have hv : (marks k n)[j] = k + j := by simp [marks]
  rw [List.set_append_right _ _ (by omega), hl, Nat.sub_self, List.drop_eq_getElem_cons (by omega), List.set_cons_zero, List.take_succ_eq_append_getElem hm, hv, List.append_assoc]
  rfl
def MarkEnd (w : World) (lo hi : Nat) (A : Option Addr) (n : Nat) (k : Int) (e : Ending) (w' : World) : Prop :=
  e = .returned (.int .i64 (k + n)) ∧ OwnI w' lo hi A n (marks k n) ∧ Chg lo hi w w'
theorem markIntS_any (A : Option Addr) (n cap lo hi : Nat) (xs : List Int) (k : Int) (w : World) (h : OwnI w lo hi A n xs) (hn : n ≤ 1048576) (h0 : 0 ≤ k) (h1 : k ≤ 16777216) :
    Calls Try.prog 13 #[.slice A n cap, .int .i64 k] w (MarkEnd w lo hi A n k) := by
  by_cases hz : n = 0
  · subst hz
    go_enter Try.func13, Try.ntmps13
    go_wp2
    go_loopw [1, 5] (fun v i wr => i = .int .i64 0 ∧ v = .int .i64 k ∧ w = wr) (fun _ _ _ => 0)
    case atStart => exact ⟨rfl, rfl, rfl⟩
    case round =>
      obtain ⟨rfl, rfl, rfl⟩ := hrel
      go_wp2
      go_ret
      exact ⟨ret_int (by simp), ⟨by simp [marks], fun h => absurd h (by omega)⟩, Chg.refl⟩
  · obtain ⟨g, rfl, hg1, hg2, hB⟩ := h.2 (by omega)
    go_enter Try.func13, Try.ntmps13
    go_wp2
    go_loopw [1, 5] (fun v i wr => ∃ j : Nat, j ≤ n ∧ i = .int .i64 j ∧ v = .int .i64 (k + j) ∧ Blk wr g 3 (ints ((marks k n).take j ++ xs.drop j)) ∧ Chg lo hi w wr) (fun _ i _ => n - (intOf i).toNat)
    case atStart => exact ⟨0, by omega, rfl, by simp, by simpa using hB, Chg.refl⟩
    case round =>
      obtain ⟨j, hj, rfl, rfl, hB', hc⟩ := hrel
      by_cases hlt : j < n
      · have c2 := hB'.int_cell (k := j) (by simp [marks_len, h.1]; omega)
        have c3 := hB'.frozen j
        go_wp2
        go_roundw
        case rel => exact ⟨j + 1, hlt, by go_num, congrArg (Value.int .i64) (by omega), by rw [← mark_set k n j xs h.1 hlt]; exact hB'.int_set j _, hc.of_set _ hg1 hg2⟩
        case measure => simp [intOf]; omega
      · obtain rfl : j = n := by omega
        go_wp2
        go_ret
        refine ⟨rfl, ⟨marks_len k j, fun _ => ⟨g, rfl, hg1, hg2, ?_⟩⟩, hc⟩
        have e1 : (marks k j).take j ++ xs.drop j = marks k j := by rw [List.take_of_length_le (by rw [marks_len]; exact Nat.le_refl _), List.drop_of_length_le (by rw [h.1]; exact Nat.le_refl _)]; simp
        rw [e1] at hB'
        exact hB'
theorem heldIntS_any (A : Option Addr) (n cap : Nat) (k : Int) (w : World) (h : Ints w A n (marks k n)) (hn : n ≤ 1048576) (h0 : 0 ≤ k) (h1 : k ≤ 16777216) :
    Calls Try.prog 14 #[.slice A n cap, .int .i64 k] w fun e w' => e = .returned (.int .i64 (k + n)) ∧ Below w.heap.size w w' := by
  go_enter Try.func14, Try.ntmps14
  go_wp2
  go_loopw [1, 5] (fun v i wr => ∃ j : Nat, j ≤ n ∧ i = .int .i64 j ∧ v = .int .i64 (k + j) ∧ Below w.heap.size w wr) (fun _ i _ => n - (intOf i).toNat)
  case atStart => exact ⟨0, by omega, rfl, by simp, by (repeat (first | exact Below.refl _ _ | assumption | refine Below.alloc ?_ (by first | omega | (simp; done) | (simp; omega)) _ | refine Below.drew ?_ | refine bdN ?_ _ | refine Below.setCell ?_ (by first | omega | (simp; done) | (simp; omega)) _))⟩
  case round =>
    obtain ⟨j, hj, rfl, rfl, hb⟩ := hrel
    by_cases hlt : j < n
    · obtain ⟨b, off, rfl, hbl, hc⟩ := (h.below hb).2 (by omega)
      have c1 := hc j hlt
      rw [List.getD_eq_getElem?_getD, marks_at k n j hlt] at c1
      have hne : (k + (j : Int) != k + j) = false := by simp
      clear hc
      go_wp2
      go_roundw
      case rel => exact ⟨j + 1, hlt, by go_num, congrArg (Value.int .i64) (by omega), hb⟩
      case measure => simp [intOf]; omega
    · obtain rfl : j = n := by omega
      go_wp2
      go_ret
      exact ⟨rfl, hb⟩
end Go.Proofs.Ytoiaggjjfahabaa
