/- The reference's PlanUnits, PlanLoad, PlanValid: what they compute. Conditions: small numbers, short lists. -/
import Derived.Test.YtoiaggjjfahabaaDoorChg10
import Derived.Test.YtoiaggjjfahabaaDoorChg8
import Derived.Deep.RegionLaw
namespace Go.Proofs.YtoiaggjjfahabaaDoor
open Go.RowKit
set_option linter.unusedVariables false
theorem PlanUnits_s (A : Option Addr) (n cap : Nat) (xs : List Int) (w : World) (h : Ints w A n xs) (hn : n ≤ 1000000) (hx : Sml xs) :
    Calls Tryd.prog 68 #[.slice A n cap] w fun e w' => e = .returned (.int .i64 (sumL xs n)) ∧ Below w.heap.size w w' := by
  go_enter Tryd.func68, Tryd.ntmps68
  go_wp2
  go_loopw [3, 4] (fun v i wr => ∃ k : Nat, k ≤ n ∧ i = .int .i64 k ∧ v = .int .i64 (sumL xs k) ∧ Below w.heap.size w wr) (fun _ i _ => n - (intOf i).toNat)
  case atStart => exact ⟨0, by omega, rfl, rfl, by (repeat (first | exact Below.refl _ _ | assumption | refine Below.alloc ?_ (by first | omega | (simp; done) | (simp; omega)) _ | refine Below.drew ?_ | refine bdN ?_ _ | refine Below.setCell ?_ (by first | omega | (simp; done) | (simp; omega)) _))⟩
  case round =>
    obtain ⟨k, hk, rfl, rfl, hb⟩ := hrel
    by_cases hlt : k < n
    · obtain ⟨b, off, rfl, hbl, hc⟩ := h.2 (by omega)
      have c1 : wr.cell? ⟨b, off + k, none⟩ = some (.int .i64 (xs.getD k 0)) := (hb.cell (p := ⟨b, off + k, none⟩) hbl).trans (hc k hlt)
      have bd := sumL_bd hx k
      have bk := hx k
      have hs := show sumL xs (k + 1) = sumL xs k + xs.getD k 0 from rfl
      obtain ⟨F, hF⟩ : ∃ F, sumL xs k = F := ⟨_, rfl⟩
      obtain ⟨z, hz⟩ : ∃ z, xs.getD k 0 = z := ⟨_, rfl⟩
      rw [hF] at bd hs ⊢
      rw [hz] at c1 bk hs
      have HS := Lib.hid hs
      have i1 : (0 : Int) ≤ (k : Int) := by omega
      have i2 : (k : Int) < (n : Int) := by omega
      clear hc hs hF hz
      go_wp2
      go_roundw
      case rel => exact ⟨k + 1, hlt, by go_num, by rw [HS.out], hb⟩
      case measure => simp [intOf]; omega
    · obtain rfl : k = n := by omega
      go_wp2
      go_ret
      exact ⟨rfl, hb⟩
set_option maxHeartbeats 1000000 in
theorem PlanLoad_s (A : Option Addr) (n cap : Nat) (p : List (List Int)) (j : Nat) (w : World) (h : Tabs w A n p) (hn : n ≤ 1000) (hx : ∀ k, Sml (p.getD k [])) (hl : ∀ k, k < n → (p.getD k []).length = 6) (hj : j < 6) :
    Calls Tryd.prog 69 #[.slice A n cap, .int .i64 j] w fun e w' => e = .returned (.int .i64 (loadL p j n)) ∧ Below w.heap.size w w' := by
  go_enter Tryd.func69, Tryd.ntmps69
  go_wp2
  go_loopw [5, 6] (fun v i wr => ∃ k : Nat, k ≤ n ∧ i = .int .i64 k ∧ v = .int .i64 (loadL p j k) ∧ Below w.heap.size w wr) (fun _ i _ => n - (intOf i).toNat)
  case atStart => exact ⟨0, by omega, rfl, rfl, by (repeat (first | exact Below.refl _ _ | assumption | refine Below.alloc ?_ (by first | omega | (simp; done) | (simp; omega)) _ | refine Below.drew ?_ | refine bdN ?_ _ | refine Below.setCell ?_ (by first | omega | (simp; done) | (simp; omega)) _))⟩
  case round =>
    obtain ⟨k, hk, rfl, rfl, hb⟩ := hrel
    by_cases hlt : k < n
    · obtain ⟨b, off, rfl, hbl, hc⟩ := h.2 (by omega)
      obtain ⟨Ak, ck, d1, d2, d3⟩ := hc k hlt
      have c1 := (hb.cell (p := ⟨b, off + k, none⟩) hbl).trans d1
      have bd := loadL_bd hx j k
      have bk := hx k j
      have hs := show loadL p j (k + 1) = loadL p j k + (p.getD k []).getD j 0 from rfl
      obtain ⟨F, hF⟩ : ∃ F, loadL p j k = F := ⟨_, rfl⟩
      obtain ⟨rs, hrs⟩ : ∃ rs, p.getD k [] = rs := ⟨_, rfl⟩
      rw [hF] at bd hs ⊢
      rw [hrs] at c1 bk hs d2 d3
      have i1 : (0 : Int) ≤ (k : Int) := by omega
      have i2 : (k : Int) < (n : Int) := by omega
      have hl6 := hl k hlt
      rw [hrs] at hl6
      rw [hl6] at c1 d2 d3
      · obtain ⟨b2, off2, rfl, hbl2, hc2⟩ := d3.2 (by omega)
        have c2 := (hb.cell (p := ⟨b2, off2 + j, none⟩) hbl2).trans (hc2 j hj)
        obtain ⟨z, hz⟩ : ∃ z, rs.getD j 0 = z := ⟨_, rfl⟩
        rw [hz] at c2 bk hs
        have HS := Lib.hid hs
        have i3 : (0 : Int) ≤ (j : Int) := by omega
        have i4 : (j : Int) < (6 : Int) := by omega
        have t0 : inR (j : Int) 0 5 = true := inR_yes (by omega)
        clear hc hs hF hz hrs d1 hc2 hl6
        go_wp2_with (go_at_call 44; refine (l1In_any _ _ _ _).mono ?_; rintro e w3 ⟨rfl, rfl⟩)
        go_roundw
        case rel => exact ⟨k + 1, hlt, by go_num, by rw [HS.out], hb⟩
        case measure => simp [intOf]; omega
    · obtain rfl : k = n := by omega
      go_wp2
      go_ret
      exact ⟨rfl, hb⟩
end Go.Proofs.YtoiaggjjfahabaaDoor
