/- What spec.TicketText computes. No condition. -/
import Derived.Test.YtoiaggjjfahabaaDoorTkW
namespace Go.Proofs.YtoiaggjjfahabaaDoor
open Go.RowKit
set_option linter.unusedVariables false
def strLen : Value → Nat
  | .string s => s.size
  | _ => 0
set_option maxRecDepth 100000 in
set_option maxHeartbeats 1000000 in
theorem TicketText_s (n : Int) (w : World) : Calls Tryd.prog 11 #[.int .i64 n] w (StrQ (tk n) w) := by
  by_cases h : 0 ≤ n ∧ n ≤ 9999
  · have hin : inR n 0 9999 = true := by unfold inR; simp; omega
    obtain ⟨m, rfl⟩ : ∃ m : Nat, n = m := ⟨n.toNat, by omega⟩
    have ht : tk m = tkB m := by unfold tk; rw [if_pos h]; rfl
    rw [ht]
    obtain ⟨d, d1, d4, hd, hz, hs⟩ := dec_ss m (by omega)
    have L := fun w => l1Number_any m (by omega) w
    rw [hd] at L
    have hsz := ss_size m
    have hk := ss_tk m
    have C := fun w b => cvB' w b (65 + m % 23) (tkC m) (by omega) rfl (65 + ((m : Int) % 23)) (by omega)
    have hcs := tkC_size m
    generalize tkC m = c at *
    generalize tkB m = t at *
    have A1 := fun w => addS w _ c t hk (by rw [hsz 4 (by omega), hcs]; omega)
    have A2 := Lib.hid (fun (k : Nat) (h1 : d ≤ k) (h2 : k < 4) w => addS w _ _ _ (hs k h1 h2) (by rw [hsz k (by omega)]; show 1 + k ≤ 100; omega))
    generalize hg : ss m = S at *
    have HS := Lib.hid hsz
    clear hs hsz hk hz hd hg hcs ht
    go_enter Tryd.func11, Tryd.ntmps11
    go_upto_region 4 with (first
      | (go_at_call 44; refine (l1In_any _ _ _ _).mono ?_; rintro e w' ⟨rfl, rfl⟩)
      | (go_at_call 45; refine (L _).mono ?_; rintro e w1 ⟨rfl, hw⟩))
    go_loopw [3] (fun v wr => ∃ k : Nat, d ≤ k ∧ k ≤ 4 ∧ v = .string (S k) ∧ Below w.heap.size w wr) (fun v _ => 4 - strLen v)
    case atStart => exact ⟨d, Nat.le_refl _, d4, rfl, hw⟩
    case round =>
      clear hw
      obtain ⟨k, k1, k4, rfl, hw⟩ := hrel
      have hsz := HS.out k k4
      by_cases hk : k < 4
      · have hb : decide ((k : Int) < 4) = true := by simp; omega
        have A3 := A2.out k k1 hk
        have hsz2 := HS.out (k + 1) hk
        go_wp2
        go_roundw
        case rel => exact ⟨k + 1, by omega, hk, rfl, hw⟩
        case measure => simp only [strLen]; omega
      · obtain rfl : k = 4 := by omega
        go_wp2
        go_ret
        exact ⟨rfl, hw.alloc hw.size _⟩
  · have hin : inR n 0 9999 = false := by unfold inR; simp; omega
    have ht : tk n = ⟨#[]⟩ := by unfold tk; rw [if_neg h]
    rw [ht]
    go_enter Tryd.func11, Tryd.ntmps11
    go_wp2_with (go_at_call 44; refine (l1In_any _ _ _ _).mono ?_; rintro e w' ⟨rfl, rfl⟩)
    go_ret
    exact ⟨rfl, Below.refl _ _⟩
end Go.Proofs.YtoiaggjjfahabaaDoor
