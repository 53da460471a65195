/- CoinSum: what it computes, of the program and of the reference. No condition but the lengths. -/
import Derived.Test.YtoiaggjjfahabaaDoorCoin
namespace Go.Proofs.YtoiaggjjfahabaaDoor
open Go.RowKit

def dotTo (ms zs : List Int) : Nat → Int
  | 0 => 0
  | k + 1 => dotTo ms zs k + ms[k]?.getD 0 * zs[k]?.getD 0
def msOk (ms : List Int) (n : Nat) : Prop := ∀ i, i < n → 0 ≤ ms[i]?.getD 0 ∧ ms[i]?.getD 0 ≤ 300
instance (ms : List Int) (n : Nat) : Decidable (msOk ms n) := by unfold msOk; infer_instance
def csV (zs ms : List Int) : Int := if cv zs = true ∧ ms.length = zs.length ∧ msOk ms zs.length then dotTo ms zs zs.length else -1
theorem prod_bd {a b : Int} (h1 : 0 ≤ a ∧ a ≤ 300) (h2 : 1 ≤ b ∧ b ≤ 99) : 0 ≤ a * b ∧ a * b ≤ 29700 := by
  have h3 := Int.mul_le_mul h1.2 h2.2 (by omega) (by omega)
  have h4 := Int.mul_nonneg h1.1 (show (0 : Int) ≤ b by omega)
  omega
theorem CoinSum_i (A B : Option Addr) (n m c1 c2 : Nat) (zs ms : List Int) (w : World) (h : Ints w A n zs) (h' : Ints w B m ms) (hn : n ≤ 1048576) (hm : m ≤ 1048576) :
    Calls Tryd.prog 21 #[.slice A n c1, .slice B m c2] w fun e w' => e = .returned (.int .i64 (csV zs ms)) ∧ Below w.heap.size w w' := by
  by_cases hv : cv zs = true
  · obtain ⟨v1, v2, v3⟩ := cv_at hv
    rw [h.1] at v1 v2
    by_cases hl : n = m
    · subst hl
      have V3 : Hid (∀ i, i < zs.length → 1 ≤ zs[i]?.getD 0 ∧ zs[i]?.getD 0 ≤ 99) := v3
      clear v3
      go_enter Tryd.func21, Tryd.ntmps21
      go_wp2_with (go_at_call 51; refine (CoinsValid_i _ _ _ _ _ h (by omega)).mono ?_; rintro e w' ⟨rfl, hb⟩)
      have Hb := Lib.hid hb
      clear hb
      go_loopw [5, 20] (fun s i wr => ∃ k : Nat, k ≤ n ∧ i = .int .i64 k ∧ s = .int .i64 (dotTo ms zs k) ∧ 0 ≤ dotTo ms zs k ∧ dotTo ms zs k ≤ 29700 * k ∧ (∀ i, i < k → 0 ≤ ms[i]?.getD 0 ∧ ms[i]?.getD 0 ≤ 300) ∧ Below w.heap.size w wr) (fun _ i _ => n - (intOf i).toNat)
      case atStart => exact ⟨0, by omega, rfl, rfl, by simp [dotTo], by simp [dotTo], (fun i hi => absurd hi (by omega)), Hb.out⟩
      case round =>
        obtain ⟨k, hk, rfl, rfl, d1, d2, ho, hb⟩ := hrel
        have Ho := Lib.hid ho
        clear ho
        by_cases hlt : k < n
        · obtain ⟨b, off, rfl, hbl, hc⟩ := h.2 (by omega)
          obtain ⟨b', off', rfl, hbl', hc'⟩ := h'.2 (by omega)
          have c1 : wr.cell? ⟨b, off + k, none⟩ = some (.int .i64 (zs.getD k 0)) := (hb.cell (p := ⟨b, off + k, none⟩) hbl).trans (hc k hlt)
          have c2 : wr.cell? ⟨b', off' + k, none⟩ = some (.int .i64 (ms.getD k 0)) := (hb.cell (p := ⟨b', off' + k, none⟩) hbl').trans (hc' k hlt)
          have z := V3.out k (by rw [h.1]; exact hlt)
          clear hc hc'
          by_cases hr : 0 ≤ ms[k]?.getD 0 ∧ ms[k]?.getD 0 ≤ 300
          · have hp := prod_bd hr z
            go_wp2
            go_roundw
            case rel => exact ⟨k + 1, hlt, by go_num, rfl, by simp only [dotTo]; omega, by simp only [dotTo]; omega, (fun i hi => by rcases Nat.lt_or_ge i k with g | g; exact Ho.out i g; obtain rfl : i = k := (by omega); exact hr), by (repeat (first | exact Below.refl _ _ | assumption | refine Below.alloc ?_ (by first | omega | (simp; done) | (simp; omega)) _ | refine Below.drew ?_ | refine bdN ?_ _ | refine Below.setCell ?_ (by first | omega | (simp; done) | (simp; omega)) _))⟩
            case measure => simp [intOf]; omega
          · have Hr := Lib.hid hr
            rcases (show ms[k]?.getD 0 < 0 ∨ 300 < ms[k]?.getD 0 from by omega) with g | g
            all_goals
              clear hr
              go_wp2
              all_goals
                go_ret
                exact ⟨ret_int (by symm; unfold csV; rw [if_neg]; rintro ⟨_, _, g⟩; exact Hr.out (g k (by rw [h.1]; exact hlt))), by (repeat (first | exact Below.refl _ _ | assumption | refine Below.alloc ?_ (by first | omega | (simp; done) | (simp; omega)) _ | refine Below.drew ?_ | refine bdN ?_ _ | refine Below.setCell ?_ (by first | omega | (simp; done) | (simp; omega)) _))⟩
        · obtain rfl : k = n := by omega
          go_wp2
          go_ret
          exact ⟨ret_int (by unfold csV; rw [if_pos ⟨hv, by rw [h.1, h'.1], by rw [h.1]; exact Ho.out⟩, h.1]), by (repeat (first | exact Below.refl _ _ | assumption | refine Below.alloc ?_ (by first | omega | (simp; done) | (simp; omega)) _ | refine Below.drew ?_ | refine bdN ?_ _ | refine Below.setCell ?_ (by first | omega | (simp; done) | (simp; omega)) _))⟩
    · have hx : ((m : Int) != (n : Int)) = true := by simp; omega
      have hcs : csV zs ms = -1 := by unfold csV; rw [if_neg]; rintro ⟨_, g, _⟩; rw [h.1, h'.1] at g; omega
      go_enter Tryd.func21, Tryd.ntmps21
      go_wp2_with (go_at_call 51; refine (CoinsValid_i _ _ _ _ _ h (by omega)).mono ?_; rintro e w' ⟨rfl, hb⟩)
      go_ret
      exact ⟨ret_int hcs.symm, by (repeat (first | exact Below.refl _ _ | assumption | refine Below.alloc ?_ (by first | omega | (simp; done) | (simp; omega)) _ | refine Below.drew ?_ | refine bdN ?_ _ | refine Below.setCell ?_ (by first | omega | (simp; done) | (simp; omega)) _))⟩
  · have hv' : cv zs = false := by simpa using hv
    have hcs : csV zs ms = -1 := by unfold csV; rw [if_neg]; rintro ⟨g, _⟩; exact hv g
    clear hv
    go_enter Tryd.func21, Tryd.ntmps21
    go_wp2_with (go_at_call 51; refine (CoinsValid_i _ _ _ _ _ h (by omega)).mono ?_; rintro e w' ⟨rfl, hb⟩)
    go_ret
    exact ⟨ret_int hcs.symm, by (repeat (first | exact Below.refl _ _ | assumption | refine Below.alloc ?_ (by first | omega | (simp; done) | (simp; omega)) _ | refine Below.drew ?_ | refine bdN ?_ _ | refine Below.setCell ?_ (by first | omega | (simp; done) | (simp; omega)) _))⟩
end Go.Proofs.YtoiaggjjfahabaaDoor
