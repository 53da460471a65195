/- toIntS, eqIntS, CoinsValid, CoinSum: what they compute. No condition but the length that make bears. -/
import Derived.Test.YtoiaggjjfahabaaMem
import Derived.Test.YtoiaggjjfahabaaSc
namespace Go.Proofs.Ytoiaggjjfahabaa
open Go.RowKit

theorem infoInt : (Try.prog.info? 3).map (fun i => (i.zero, i.size, i.bytes)) = some (some (.int .i64 0), 1, 8) := by kernel_rfl
theorem fill_set (zs : List Int) (n k : Nat) (hz : zs.length = n) (hk : k < n) : (zs.take k ++ List.replicate (n - k) 0).set k (zs[k]?.getD 0) = zs.take (k + 1) ++ List.replicate (n - (k + 1)) 0 := by
  subst hz
  have e : zs.length - k = (zs.length - (k + 1)) + 1 := by omega
  have e0 : k - (zs.take k).length = 0 := by simp; omega
  rw [List.set_append_right _ _ (by simp; omega), e, List.replicate_succ, e0, List.set_cons_zero, List.take_succ_eq_append_getElem hk, List.getElem?_eq_getElem hk, Option.getD_some, List.append_assoc]
  rfl
def Made (w : World) (n : Nat) (zs : List Int) (t : TypeId) (e : Ending) (w' : World) : Prop :=
  ∃ g, e = .returned (.slice (some ⟨g, 0, none⟩) n n) ∧ w.heap.size ≤ g ∧ Ints w' (some ⟨g, 0, none⟩) n zs ∧ Blk w' g t (ints zs) ∧ Below w.heap.size w w'
theorem take_succ_eq {xs ys : List Int} {k : Nat} (h : xs.take k = ys.take k) (hk : xs[k]?.getD 0 = ys[k]?.getD 0) (h1 : k < xs.length) (h2 : k < ys.length) : xs.take (k + 1) = ys.take (k + 1) := by
  rw [List.take_succ_eq_append_getElem h1, List.take_succ_eq_append_getElem h2, h]
  have e : xs[k] = ys[k] := by simpa [h1, h2] using hk
  rw [e]
def eqB (xs ys : List Int) : Bool := decide (xs = ys)
theorem eqIntS_any (A B : Option Addr) (n m c1 c2 : Nat) (xs ys : List Int) (w : World) (h1 : Ints w A n xs) (h2 : Ints w B m ys) (b1 : n ≤ 9223372036854775807) :
    Calls Try.prog 10 #[.slice A n c1, .slice B m c2] w fun e w' => e = .returned (.bool (eqB xs ys)) ∧ Below w.heap.size w w' := by
  by_cases hnm : n = m
  · subst hnm
    go_enter Try.func10, Try.ntmps10
    go_wp2
    go_loopw [5] (fun i wr => ∃ k : Nat, k ≤ n ∧ i = .int .i64 k ∧ xs.take k = ys.take k ∧ Below w.heap.size w wr) (fun i _ => n - (intOf i).toNat)
    case atStart => exact ⟨0, by omega, rfl, rfl, by (repeat (first | exact Below.refl _ _ | assumption | refine Below.alloc ?_ (by first | omega | (simp; done) | (simp; omega)) _ | refine Below.drew ?_ | refine bdN ?_ _ | refine Below.setCell ?_ (by first | omega | (simp; done) | (simp; omega)) _))⟩
    case round =>
      obtain ⟨k, hk, rfl, he, hb⟩ := hrel
      have He := Lib.hid he
      clear he
      by_cases hlt : k < n
      · obtain ⟨b, off, rfl, hbl, hc⟩ := h1.2 (by omega)
        obtain ⟨b', off', rfl, hbl', hc'⟩ := h2.2 (by omega)
        have g1 : wr.cell? ⟨b, off + k, none⟩ = some (.int .i64 (xs.getD k 0)) := (hb.cell (p := ⟨b, off + k, none⟩) hbl).trans (hc k hlt)
        have g2 : wr.cell? ⟨b', off' + k, none⟩ = some (.int .i64 (ys.getD k 0)) := (hb.cell (p := ⟨b', off' + k, none⟩) hbl').trans (hc' k hlt)
        have i1 : (0 : Int) ≤ (k : Int) := by omega
        have i2 : (k : Int) < (n : Int) := by omega
        clear hc hc'
        by_cases hx : xs[k]?.getD 0 = ys[k]?.getD 0
        · have hxb : (xs[k]?.getD 0 != ys[k]?.getD 0) = false := by simp [hx]
          have Hx := Lib.hid hx
          clear hx
          go_wp2
          go_quiet (fail)
          go_wp2
          go_roundw
          case rel => exact ⟨k + 1, hlt, by go_num, take_succ_eq He.out Hx.out (by rw [h1.1]; exact hlt) (by rw [h2.1]; exact hlt), by (repeat (first | exact Below.refl _ _ | assumption | refine Below.alloc ?_ (by first | omega | (simp; done) | (simp; omega)) _ | refine Below.drew ?_ | refine bdN ?_ _ | refine Below.setCell ?_ (by first | omega | (simp; done) | (simp; omega)) _))⟩
          case measure => simp [intOf]; omega
        · have hxb : (xs[k]?.getD 0 != ys[k]?.getD 0) = true := by simp [hx]
          have Hx := Lib.hid hx
          clear hx
          go_wp2
          go_quiet (fail)
          go_wp2
          go_ret
          exact ⟨ret_bool (by symm; unfold eqB; rw [decide_eq_false_iff_not]; intro e; exact Hx.out (by rw [e])), by (repeat (first | exact Below.refl _ _ | assumption | refine Below.alloc ?_ (by first | omega | (simp; done) | (simp; omega)) _ | refine Below.drew ?_ | refine bdN ?_ _ | refine Below.setCell ?_ (by first | omega | (simp; done) | (simp; omega)) _))⟩
      · obtain rfl : k = n := by omega
        go_wp2
        go_ret
        refine ⟨ret_bool ?_, by (repeat (first | exact Below.refl _ _ | assumption | refine Below.alloc ?_ (by first | omega | (simp; done) | (simp; omega)) _ | refine Below.drew ?_ | refine bdN ?_ _ | refine Below.setCell ?_ (by first | omega | (simp; done) | (simp; omega)) _))⟩
        have e1 := He.out
        rw [List.take_of_length_le (by rw [h1.1]; exact Nat.le_refl _), List.take_of_length_le (by rw [h2.1]; exact Nat.le_refl _)] at e1
        simp [eqB, e1]
  · have hx : ((n : Int) != (m : Int)) = true := by simp; omega
    have hxs : eqB xs ys = false := by
      unfold eqB
      rw [decide_eq_false_iff_not]
      intro e
      have a1 := h1.1
      have a2 := h2.1
      rw [e] at a1
      omega
    go_enter Try.func10, Try.ntmps10
    go_wp2
    go_ret
    exact ⟨ret_bool hxs.symm, by (repeat (first | exact Below.refl _ _ | assumption | refine Below.alloc ?_ (by first | omega | (simp; done) | (simp; omega)) _ | refine Below.drew ?_ | refine bdN ?_ _ | refine Below.setCell ?_ (by first | omega | (simp; done) | (simp; omega)) _))⟩
end Go.Proofs.Ytoiaggjjfahabaa
