/- What impl.TicketText computes. Condition: the table of powers of ten holds what the program's text lays in it. -/
import Derived.Test.YtoiaggjjfahabaaDoorTkS
import Derived.Lib.AppendIntMem
namespace Go.Proofs.YtoiaggjjfahabaaDoor
open Go.RowKit
set_option linter.unusedVariables false
theorem of_grow {w w' : World} (h : ∃ k os, w' = Go.Sort.grow (w.drewN k) os) : Below w.heap.size w w' := by
  obtain ⟨k, os, rfl⟩ := h
  exact Lib.below_grow w.heap.size w (Nat.le_refl _) k os
theorem Repeat_any (c : Nat) (h : c ≤ 3) (w : World) : Calls Tryd.prog 47 #[.string ⟨#[48]⟩, .int .i64 c] w fun e w' => e = .returned (.string (zs c)) ∧ w = w' := by
  rcases (by omega : c = 0 ∨ c = 1 ∨ c = 2 ∨ c = 3) with rfl | rfl | rfl | rfl
  · exact Repeat_0 w
  · exact Repeat_1 w
  · exact Repeat_2 w
  · exact Repeat_3 w
theorem enc_one (m : Nat) : Utf8.encode (65 + (m : Int) % 23) = tkC m := by
  have h : (65 + (m : Int) % 23) = ((65 + m % 23 : Nat) : Int) := by omega
  have hlt : 65 + m % 23 < 128 := by omega
  rw [h]
  unfold Utf8.encode
  have hv : Utf8.valid ((65 + m % 23 : Nat) : Int) = true := by unfold Utf8.valid; simp; omega
  simp only [hv, if_true, Int.toNat_natCast, hlt]
  rfl
/-- the table of powers of ten -/
def TabT (w : World) : Prop := Lib.TabIs Tryd.prog w "internal/strconv.uint64pow10" .u64 Lib.pow10Tab
theorem TabT.below {w w' : World} (h : TabT w) (hb : Below w.heap.size w w') : TabT w' := (Lib.tabBelow_of_tabIs h).on hb |>.here
set_option maxRecDepth 100000 in
set_option maxHeartbeats 1000000 in
theorem TicketText_i (n : Int) (w : World) (T : TabT w) : Calls Tryd.prog 12 #[.int .i64 n] w (StrQ (tk n) w) := by
  by_cases h : 0 ≤ n ∧ n ≤ 9999
  · have hn0 : decide (n < 0) = false := by simp; omega
    have hn1 : decide (9999 < n) = false := by simp; omega
    obtain ⟨m, rfl⟩ : ∃ m : Nat, n = m := ⟨n.toNat, by omega⟩
    have ht : tk m = tkB m := by unfold tk; rw [if_pos h]; rfl
    rw [ht]
    obtain ⟨d, d1, d4, hd, hz, hs⟩ := dec_ss m (by omega)
    have L := Tryd.strconv_Itoa m (by omega) (by omega) w T
    rw [show (⟨(Lib.itoa m).toArray⟩ : ByteArray) = ss m d by rw [← hd]; unfold Lib.itoa; rw [if_neg (by omega)]; rfl] at L
    have R := fun w => Repeat_any (4 - d) (by omega) w
    have hsz := ss_size m d d4
    have hs4 := ss_size m 4 (by omega)
    have hzz := zs_size (4 - d)
    have hk := ss_tk m
    have hE := enc_one m
    have hcs := tkC_size m
    generalize tkC m = c at *
    generalize tkB m = t at *
    have A1 := fun w => addS w _ c t hk (by omega)
    have A2 := fun w => addS w _ _ _ hz (by omega)
    generalize ss m 4 = s4 at *
    generalize ss m d = s1 at *
    generalize zs (4 - d) = z at *
    have e4 : (4 : Int) - (d : Int) = ((4 - d : Nat) : Int) := by omega
    clear hs hk hz hd hcs ht hs4 hzz
    go_enter Tryd.func12, Tryd.ntmps12
    go_wp2_with (first
      | (go_at_call 46; refine L.mono ?_; rintro e w1 ⟨rfl, hw⟩)
      | (go_at_call 47; refine (R _).mono ?_; rintro e w' ⟨rfl, rfl⟩))
    go_ret
    exact ⟨rfl, of_grow hw⟩
  · have ht : tk n = ⟨#[]⟩ := by unfold tk; rw [if_neg h]
    rw [ht]
    clear T
    rcases (by omega : n < 0 ∨ 9999 < n) with g | g
    · have hb : decide (n < 0) = true := by simpa using g
      go_enter Tryd.func12, Tryd.ntmps12
      go_wp2
      go_ret
      exact ⟨rfl, Below.refl _ _⟩
    · have hb0 : decide (n < 0) = false := by simp; omega
      have hb : decide (9999 < n) = true := by simpa using g
      go_enter Tryd.func12, Tryd.ntmps12
      go_wp2
      go_ret
      exact ⟨rfl, Below.refl _ _⟩
end Go.Proofs.YtoiaggjjfahabaaDoor
