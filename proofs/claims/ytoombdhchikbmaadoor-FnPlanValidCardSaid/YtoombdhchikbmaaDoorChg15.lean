/- sameLists of the laws on two tables of the same numbers. Conditions: at most 1000 rows. -/
import Derived.Test.YtoombdhchikbmaaDoorChg2
import Derived.Test.YtoombdhchikbmaaDoorSumEq
import Derived.Test.YtoombdhchikbmaaDoorPChg
import Derived.Deep.RegionLaw
namespace Go.Proofs.YtoombdhchikbmaaDoor
open Go.RowKit
set_option linter.unusedVariables false
set_option maxRecDepth 100000 in
set_option maxHeartbeats 2000000 in
theorem sameLists_yes (A B : Option Addr) (n c1 c2 : Nat) (p : List (List Int)) (w : World) (hA : Tabs w A n p) (hB : Tabs w B n p) (hn : n ≤ 1000) (hl : ∀ k, (p.getD k []).length ≤ 1000) :
    Calls Tryd.prog 45 #[.slice A n c1, .slice B n c2] w fun e w' => e = .returned (.bool true) ∧ Below w.heap.size w w' := by
  have HL := Lib.hid hl
  clear hl
  go_enter Tryd.func45, Tryd.ntmps45
  go_wp2
  go_loopw [5] (fun i wr => ∃ k : Nat, k ≤ n ∧ i = .int .i64 k ∧ Below w.heap.size w wr) (fun i _ => n - (intOf i).toNat)
  case atStart => exact ⟨0, by omega, rfl, by (repeat (first | exact Below.refl _ _ | assumption | refine Below.alloc ?_ (by first | omega | (simp; done) | (simp; omega)) _ | refine Below.drew ?_ | refine bdN ?_ _ | refine Below.setCell ?_ (by first | omega | (simp; done) | (simp; omega)) _))⟩
  case round =>
    obtain ⟨k, hk, rfl, hb⟩ := hrel
    by_cases hlt : k < n
    · obtain ⟨ab, ao, rfl, hal, hac⟩ := hA.2 (by omega)
      obtain ⟨bb, bo, rfl, hbl, hbc⟩ := hB.2 (by omega)
      obtain ⟨Ak, ck, a1, a2, a3⟩ := hac k hlt
      obtain ⟨Bk, dk, b1, b2, b3⟩ := hbc k hlt
      have q1 := (hb.cell (p := ⟨ab, ao + k, none⟩) hal).trans a1
      have q2 := (hb.cell (p := ⟨bb, bo + k, none⟩) hbl).trans b1
      have lk := HL.out k
      obtain ⟨row, hrow⟩ : ∃ row, p.getD k [] = row := ⟨_, rfl⟩
      rw [hrow] at q1 q2 a3 b3 lk
      obtain ⟨m, hm⟩ : ∃ m, row.length = m := ⟨_, rfl⟩
      rw [hm] at q1 q2 a3 b3 lk
      have S := fun w h1 h2 => sameInts_any Ak Bk m m ck dk row row w h1 h2 (by omega)
      rw [show eqL row row = true by simp [eqL]] at S
      have i1 : (0 : Int) ≤ (k : Int) := by omega
      have i2 : (k : Int) < (n : Int) := by omega
      clear hac hbc hrow hm a1 b1 a2 b2
      go_upto_region 6 with fail
      generalize wr = W at *
      have HA := Lib.hid (a3.below hb)
      have HB := Lib.hid (b3.below hb)
      have HW := Lib.hid hb
      have hsz := hb.size
      have hal2 := Nat.lt_of_lt_of_le hal hsz
      have hbl2 := Nat.lt_of_lt_of_le hbl hsz
      clear hb
      go_region_held3 (fun w' => Below (W.heap.size) (W) w' ∧ ∀ k o, k < W.heap.size → w'.cell? ⟨k, o, none⟩ = World.cell? (W) ⟨k, o, none⟩) (first | assumption | exact kp_start | (refine kp_step ?_ hb ?_; assumption; (first | omega | (simp; done) | (simp; omega))) | (refine kp_drew ?_; assumption) | (refine kp_drew (kp_of hb ?_); (first | omega | (simp; done) | (simp; omega)))) (first | (go_at_call 37; (with_reducible refine (S _ (HA.out.below (by (refine kp_end (by assumption) ?_ (by first | omega | (simp; done) | (simp; omega)); (repeat (first | exact Below.refl _ _ | assumption | refine Below.alloc ?_ (by first | omega | (simp; done) | (simp; omega)) _ | refine Below.drew ?_ | refine bdN ?_ _ | refine Below.setCell ?_ (by first | omega | (simp; done) | (simp; omega)) _))))) (HB.out.below (by (refine kp_end (by assumption) ?_ (by first | omega | (simp; done) | (simp; omega)); (repeat (first | exact Below.refl _ _ | assumption | refine Below.alloc ?_ (by first | omega | (simp; done) | (simp; omega)) _ | refine Below.drew ?_ | refine bdN ?_ _ | refine Below.setCell ?_ (by first | omega | (simp; done) | (simp; omega)) _)))))).mono ?_); rintro e w' ⟨rfl, hb⟩))
      all_goals
        go_wp2_with fail
        go_roundw
        case rel => exact ⟨k + 1, hlt, by go_num, bt HW.out (by (refine kp_end (by assumption) ?_ (by first | omega | (simp; done) | (simp; omega)); (repeat (first | exact Below.refl _ _ | assumption | refine Below.alloc ?_ (by first | omega | (simp; done) | (simp; omega)) _ | refine Below.drew ?_ | refine bdN ?_ _ | refine Below.setCell ?_ (by first | omega | (simp; done) | (simp; omega)) _))))⟩
        case measure => simp [intOf]; omega
    · obtain rfl : k = n := by omega
      go_wp2
      go_ret
      exact ⟨rfl, hb⟩
end Go.Proofs.YtoombdhchikbmaaDoor
