/- sumOf and sameInts of the laws: what they compute. Conditions: small numbers, short lists. -/
import Derived.Test.YtoiaggjjfahabaaDoorMem
import Derived.BigQuiet
namespace Go.Proofs.YtoiaggjjfahabaaDoor
open Go.RowKit
set_option linter.unusedVariables false
/-- the sum of the first k numbers -/
def totL (xs : List Int) : Nat → Int
  | 0 => 0
  | k + 1 => totL xs k + xs.getD k 0
theorem totL_bd {xs : List Int} (h : ∀ i : Nat, -1000000 ≤ xs.getD i 0 ∧ xs.getD i 0 ≤ 1000000) (k : Nat) : -1000000 * k ≤ totL xs k ∧ totL xs k ≤ 1000000 * k := by
  induction k with
  | zero => simp [totL]
  | succ k ih => have := h k; unfold totL; omega
theorem sumOf_any (A : Option Addr) (n cap : Nat) (xs : List Int) (w : World) (h : Ints w A n xs) (hn : n ≤ 1000000) (hx : ∀ i : Nat, -1000000 ≤ xs.getD i 0 ∧ xs.getD i 0 ≤ 1000000) :
    Calls Tryd.prog 20 #[.slice A n cap] w fun e w' => e = .returned (.int .i64 (totL xs n)) ∧ Below w.heap.size w w' := by
  go_enter Tryd.func20, Tryd.ntmps20
  go_wp2
  go_loopw [3, 4] (fun v i wr => ∃ k : Nat, k ≤ n ∧ i = .int .i64 k ∧ v = .int .i64 (totL xs k) ∧ Below w.heap.size w wr) (fun _ i _ => n - (intOf i).toNat)
  case atStart => exact ⟨0, by omega, rfl, rfl, by (repeat (first | exact Below.refl _ _ | assumption | refine Below.alloc ?_ (by first | omega | (simp; done) | (simp; omega)) _ | refine Below.drew ?_ | refine bdN ?_ _ | refine Below.setCell ?_ (by first | omega | (simp; done) | (simp; omega)) _))⟩
  case round =>
    obtain ⟨k, hk, rfl, rfl, hb⟩ := hrel
    by_cases hlt : k < n
    · obtain ⟨b, off, rfl, hbl, hc⟩ := h.2 (by omega)
      have c1 : wr.cell? ⟨b, off + k, none⟩ = some (.int .i64 (xs.getD k 0)) := (hb.cell (p := ⟨b, off + k, none⟩) hbl).trans (hc k hlt)
      have bd := totL_bd hx k
      have bk := hx k
      have hs := show totL xs (k + 1) = totL xs k + xs.getD k 0 from rfl
      obtain ⟨F, hF⟩ : ∃ F, totL xs k = F := ⟨_, rfl⟩
      obtain ⟨z, hz⟩ : ∃ z, xs.getD k 0 = z := ⟨_, rfl⟩
      rw [hF] at bd hs ⊢
      rw [hz] at c1 bk hs
      have HS := Lib.hid hs
      have i1 : (0 : Int) ≤ (k : Int) := by omega
      have i2 : (k : Int) < (n : Int) := by omega
      clear hc hs hF hz
      go_wp2
      go_roundw
      case rel => exact ⟨k + 1, hlt, by go_num, by rw [HS.out], hb⟩
      case measure => simp [intOf]; omega
    · obtain rfl : k = n := by omega
      go_wp2
      go_ret
      exact ⟨rfl, hb⟩
def eqL (xs ys : List Int) : Bool := decide (xs = ys)
theorem take_next_eq {xs ys : List Int} {k : Nat} (h : xs.take k = ys.take k) (hk : xs.getD k 0 = ys.getD k 0) (h1 : k < xs.length) (h2 : k < ys.length) : xs.take (k + 1) = ys.take (k + 1) := by
  rw [List.take_succ_eq_append_getElem h1, List.take_succ_eq_append_getElem h2, h]
  have e : xs[k] = ys[k] := by simpa [List.getD_eq_getElem?_getD, h1, h2] using hk
  rw [e]
set_option maxHeartbeats 1000000 in
theorem sameInts_any (A B : Option Addr) (n m c1 c2 : Nat) (xs ys : List Int) (w : World) (h1 : Ints w A n xs) (h2 : Ints w B m ys) (b1 : n ≤ 9223372036854775807) :
    Calls Tryd.prog 18 #[.slice A n c1, .slice B m c2] w fun e w' => e = .returned (.bool (eqL xs ys)) ∧ Below w.heap.size w w' := by
  by_cases hnm : n = m
  · subst hnm
    go_enter Tryd.func18, Tryd.ntmps18
    go_wp2
    go_loopw [5] (fun i wr => ∃ k : Nat, k ≤ n ∧ i = .int .i64 k ∧ xs.take k = ys.take k ∧ Below w.heap.size w wr) (fun i _ => n - (intOf i).toNat)
    case atStart => exact ⟨0, by omega, rfl, rfl, by (repeat (first | exact Below.refl _ _ | assumption | refine Below.alloc ?_ (by first | omega | (simp; done) | (simp; omega)) _ | refine Below.drew ?_ | refine bdN ?_ _ | refine Below.setCell ?_ (by first | omega | (simp; done) | (simp; omega)) _))⟩
    case round =>
      obtain ⟨k, hk, rfl, he, hb⟩ := hrel
      have He := Lib.hid he
      clear he
      by_cases hlt : k < n
      · obtain ⟨b, off, rfl, hbl, hc⟩ := h1.2 (by omega)
        obtain ⟨b', off', rfl, hbl', hc'⟩ := h2.2 (by omega)
        have g1 : wr.cell? ⟨b, off + k, none⟩ = some (.int .i64 (xs.getD k 0)) := (hb.cell (p := ⟨b, off + k, none⟩) hbl).trans (hc k hlt)
        have g2 : wr.cell? ⟨b', off' + k, none⟩ = some (.int .i64 (ys.getD k 0)) := (hb.cell (p := ⟨b', off' + k, none⟩) hbl').trans (hc' k hlt)
        have i1 : (0 : Int) ≤ (k : Int) := by omega
        have i2 : (k : Int) < (n : Int) := by omega
        obtain ⟨x, hx⟩ : ∃ x, xs.getD k 0 = x := ⟨_, rfl⟩
        obtain ⟨y, hy⟩ : ∃ y, ys.getD k 0 = y := ⟨_, rfl⟩
        rw [hx] at g1
        rw [hy] at g2
        have HX := Lib.hid hx
        have HY := Lib.hid hy
        clear hc hc' hx hy
        by_cases hxy : x = y
        · have hxb : (x != y) = false := by simp [hxy]
          have Hxy := Lib.hid hxy
          clear hxy
          go_wp2
          go_quiet (fail)
          go_wp2
          go_roundw
          case rel => exact ⟨k + 1, hlt, by go_num, take_next_eq He.out (by rw [HX.out, HY.out]; exact Hxy.out) (by rw [h1.1]; exact hlt) (by rw [h2.1]; exact hlt), by (repeat (first | exact Below.refl _ _ | assumption | refine Below.alloc ?_ (by first | omega | (simp; done) | (simp; omega)) _ | refine Below.drew ?_ | refine bdN ?_ _ | refine Below.setCell ?_ (by first | omega | (simp; done) | (simp; omega)) _))⟩
          case measure => simp [intOf]; omega
        · have hxb : (x != y) = true := by simp [hxy]
          have Hxy := Lib.hid hxy
          clear hxy
          go_wp2
          go_quiet (fail)
          go_wp2
          go_ret
          exact ⟨ret_bool (by symm; unfold eqL; rw [decide_eq_false_iff_not]; intro e; exact Hxy.out (by rw [← HX.out, ← HY.out, e])), by (repeat (first | exact Below.refl _ _ | assumption | refine Below.alloc ?_ (by first | omega | (simp; done) | (simp; omega)) _ | refine Below.drew ?_ | refine bdN ?_ _ | refine Below.setCell ?_ (by first | omega | (simp; done) | (simp; omega)) _))⟩
      · obtain rfl : k = n := by omega
        go_wp2
        go_ret
        refine ⟨ret_bool ?_, by (repeat (first | exact Below.refl _ _ | assumption | refine Below.alloc ?_ (by first | omega | (simp; done) | (simp; omega)) _ | refine Below.drew ?_ | refine bdN ?_ _ | refine Below.setCell ?_ (by first | omega | (simp; done) | (simp; omega)) _))⟩
        have e1 := He.out
        rw [List.take_of_length_le (by rw [h1.1]; exact Nat.le_refl _), List.take_of_length_le (by rw [h2.1]; exact Nat.le_refl _)] at e1
        simp [eqL, e1]
  · have hx : ((n : Int) != (m : Int)) = true := by simp; omega
    have hxs : eqL xs ys = false := by
      unfold eqL
      rw [decide_eq_false_iff_not]
      intro e
      have a1 := h1.1
      have a2 := h2.1
      rw [e] at a1
      omega
    go_enter Tryd.func18, Tryd.ntmps18
    go_wp2
    go_ret
    exact ⟨ret_bool hxs.symm, by (repeat (first | exact Below.refl _ _ | assumption | refine Below.alloc ?_ (by first | omega | (simp; done) | (simp; omega)) _ | refine Below.drew ?_ | refine bdN ?_ _ | refine Below.setCell ?_ (by first | omega | (simp; done) | (simp; omega)) _))⟩
end Go.Proofs.YtoiaggjjfahabaaDoor
