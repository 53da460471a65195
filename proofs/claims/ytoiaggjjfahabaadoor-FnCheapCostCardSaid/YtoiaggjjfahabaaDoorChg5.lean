/- TightHours, Enough, PlanUnits, PlanLoad, PlanAll of the program: what they compute. Conditions: short lists of small numbers. -/
import Derived.Test.YtoiaggjjfahabaaDoorChg4
namespace Go.Proofs.YtoiaggjjfahabaaDoor
open Go.RowKit
set_option linter.unusedVariables false
theorem tg_ex (us : List Int) (rss : List (List Int)) (cs : List Int) : ∃ s, s < 64 ∧ cutV us rss cs s = lcV us rss cs ∧ ∀ t, t < s → cutV us rss cs t ≠ lcV us rss cs := by
  obtain ⟨s0, h0, e0⟩ := lcV_at us rss cs
  have key : ∀ n s, s ≤ n → s < 64 → cutV us rss cs s = lcV us rss cs → ∃ s, s < 64 ∧ cutV us rss cs s = lcV us rss cs ∧ ∀ t, t < s → cutV us rss cs t ≠ lcV us rss cs := by
    intro n
    induction n with
    | zero => intro s hs h1 h2; exact ⟨s, h1, h2, fun t ht => by omega⟩
    | succ n ih =>
      intro s hs h1 h2
      by_cases hx : ∃ t, t < s ∧ cutV us rss cs t = lcV us rss cs
      · obtain ⟨t, t1, t2⟩ := hx; exact ih t (by omega) (by omega) t2
      · exact ⟨s, h1, h2, fun t ht he => hx ⟨t, ht, he⟩⟩
  exact key s0 s0 (Nat.le_refl _) h0 e0.symm
noncomputable def tgS (us : List Int) (rss : List (List Int)) (cs : List Int) : Nat := Classical.choose (tg_ex us rss cs)
theorem tgS_spec (us : List Int) (rss : List (List Int)) (cs : List Int) : tgS us rss cs < 64 ∧ cutV us rss cs (tgS us rss cs) = lcV us rss cs ∧ ∀ t, t < tgS us rss cs → cutV us rss cs t ≠ lcV us rss cs := Classical.choose_spec (tg_ex us rss cs)
noncomputable def thV (qs : List Quad) (cs : List Int) : Int := if nsV qs = true ∧ fvV cs = true then (tgS (usL qs) (rssL qs) cs : Int) else -1
theorem muV_nn {qs : List Quad} {cs : List Int} (h1 : nsV qs = true) (h2 : fvV cs = true) : muV qs cs = lcV (usL qs) (rssL qs) cs ∧ 0 ≤ lcV (usL qs) (rssL qs) cs ∧ lcV (usL qs) (rssL qs) cs ≤ 106000 := by
  refine ⟨by unfold muV; rw [if_pos ⟨h1, h2⟩], ?_⟩
  exact leastTo_bd (us_Bd h1) (rs_Bd h1) (fv_Bd h2) lastSet (by simp [usL]; have := (ns_at h1).1; omega)
/-- Enough -/
def enV (qs : List Quad) (cs : List Int) : Bool := decide (nsV qs = true ∧ fvV cs = true ∧ lcV (usL qs) (rssL qs) cs = sumL (usL qs) qs.length)
theorem sumL_us {qs : List Quad} (h : nsV qs = true) (k : Nat) : 0 ≤ sumL (usL qs) k ∧ sumL (usL qs) k ≤ 30 * k := by
  induction k with
  | zero => simp [sumL]
  | succ k ih => have := us_bd h k; unfold sumL; omega
/-- numbers of a plan are small -/
def Sml (xs : List Int) : Prop := ∀ i : Nat, -1000000 ≤ xs.getD i 0 ∧ xs.getD i 0 ≤ 1000000
theorem sumL_bd {xs : List Int} (h : Sml xs) (k : Nat) : -1000000 * k ≤ sumL xs k ∧ sumL xs k ≤ 1000000 * k := by
  induction k with
  | zero => simp [sumL]
  | succ k ih => have := h k; unfold sumL; omega
theorem PlanUnits_i (A : Option Addr) (n cap : Nat) (xs : List Int) (w : World) (h : Ints w A n xs) (hn : n ≤ 1000000) (hx : Sml xs) :
    Calls Tryd.prog 70 #[.slice A n cap] w fun e w' => e = .returned (.int .i64 (sumL xs n)) ∧ Below w.heap.size w w' := by
  go_enter Tryd.func70, Tryd.ntmps70
  go_wp2
  go_loopw [3, 8] (fun v i wr => ∃ k : Nat, k ≤ n ∧ i = .int .i64 k ∧ v = .int .i64 (sumL xs k) ∧ Below w.heap.size w wr) (fun _ i _ => n - (intOf i).toNat)
  case atStart => exact ⟨0, by omega, rfl, rfl, by (repeat (first | exact Below.refl _ _ | assumption | refine Below.alloc ?_ (by first | omega | (simp; done) | (simp; omega)) _ | refine Below.drew ?_ | refine bdN ?_ _ | refine Below.setCell ?_ (by first | omega | (simp; done) | (simp; omega)) _))⟩
  case round =>
    obtain ⟨k, hk, rfl, rfl, hb⟩ := hrel
    by_cases hlt : k < n
    · obtain ⟨b, off, rfl, hbl, hc⟩ := h.2 (by omega)
      have c1 : wr.cell? ⟨b, off + k, none⟩ = some (.int .i64 (xs.getD k 0)) := (hb.cell (p := ⟨b, off + k, none⟩) hbl).trans (hc k hlt)
      have bd := sumL_bd hx k
      have bk := hx k
      have hs := show sumL xs (k + 1) = sumL xs k + xs.getD k 0 from rfl
      obtain ⟨F, hF⟩ : ∃ F, sumL xs k = F := ⟨_, rfl⟩
      obtain ⟨z, hz⟩ : ∃ z, xs.getD k 0 = z := ⟨_, rfl⟩
      rw [hF] at bd hs ⊢
      rw [hz] at c1 bk hs
      have HS := Lib.hid hs
      have i1 : (0 : Int) ≤ (k : Int) := by omega
      have i2 : (k : Int) < (n : Int) := by omega
      clear hc hs hF hz
      go_wp2
      go_roundw
      case rel => exact ⟨k + 1, hlt, by go_num, by rw [HS.out], hb⟩
      case measure => simp [intOf]; omega
    · obtain rfl : k = n := by omega
      go_wp2
      go_ret
      exact ⟨rfl, hb⟩
theorem loadL_bd {p : List (List Int)} (h : ∀ k, Sml (p.getD k [])) (j k : Nat) : -1000000 * k ≤ loadL p j k ∧ loadL p j k ≤ 1000000 * k := by
  induction k with
  | zero => simp [loadL]
  | succ k ih => have := h k j; unfold loadL; omega
theorem allL_bd {p : List (List Int)} (h : ∀ k, Sml (p.getD k [])) (k : Nat) : -6000000 * k ≤ allL p k ∧ allL p k ≤ 6000000 * k := by
  induction k with
  | zero => simp [allL]
  | succ k ih => have := sumL_bd (h k) 6; unfold allL; omega
set_option maxHeartbeats 1000000 in
theorem PlanLoad_i (A : Option Addr) (n cap : Nat) (p : List (List Int)) (j : Nat) (w : World) (h : Tabs w A n p) (hn : n ≤ 1000) (hx : ∀ k, Sml (p.getD k [])) :
    Calls Tryd.prog 33 #[.slice A n cap, .int .i64 j] w fun e w' => e = .returned (.int .i64 (loadL p j n)) ∧ Below w.heap.size w w' := by
  go_enter Tryd.func33, Tryd.ntmps33
  go_wp2
  go_loopw [5, 10] (fun v i wr => ∃ k : Nat, k ≤ n ∧ i = .int .i64 k ∧ v = .int .i64 (loadL p j k) ∧ Below w.heap.size w wr) (fun _ i _ => n - (intOf i).toNat)
  case atStart => exact ⟨0, by omega, rfl, rfl, by (repeat (first | exact Below.refl _ _ | assumption | refine Below.alloc ?_ (by first | omega | (simp; done) | (simp; omega)) _ | refine Below.drew ?_ | refine bdN ?_ _ | refine Below.setCell ?_ (by first | omega | (simp; done) | (simp; omega)) _))⟩
  case round =>
    obtain ⟨k, hk, rfl, rfl, hb⟩ := hrel
    by_cases hlt : k < n
    · obtain ⟨b, off, rfl, hbl, hc⟩ := h.2 (by omega)
      obtain ⟨Ak, ck, d1, d2, d3⟩ := hc k hlt
      have c1 := (hb.cell (p := ⟨b, off + k, none⟩) hbl).trans d1
      have bd := loadL_bd hx j k
      have bk := hx k j
      have hs := show loadL p j (k + 1) = loadL p j k + (p.getD k []).getD j 0 from rfl
      obtain ⟨F, hF⟩ : ∃ F, loadL p j k = F := ⟨_, rfl⟩
      obtain ⟨rs, hrs⟩ : ∃ rs, p.getD k [] = rs := ⟨_, rfl⟩
      rw [hF] at bd hs ⊢
      rw [hrs] at c1 bk hs d2 d3
      have i1 : (0 : Int) ≤ (k : Int) := by omega
      have i2 : (k : Int) < (n : Int) := by omega
      by_cases hj : j < rs.length
      · obtain ⟨b2, off2, rfl, hbl2, hc2⟩ := d3.2 (by omega)
        have c2 := (hb.cell (p := ⟨b2, off2 + j, none⟩) hbl2).trans (hc2 j hj)
        obtain ⟨z, hz⟩ : ∃ z, rs.getD j 0 = z := ⟨_, rfl⟩
        rw [hz] at c2 bk hs
        have HS := Lib.hid hs
        have i3 : (0 : Int) ≤ (j : Int) := by omega
        have i4 : (j : Int) < (rs.length : Int) := by omega
        clear hc hs hF hz hrs d1 hc2
        go_wp2
        go_roundw
        case rel => exact ⟨k + 1, hlt, by go_num, by rw [HS.out], hb⟩
        case measure => simp [intOf]; omega
      · rw [getD_big rs 0 j (by omega), Int.add_zero] at hs
        have HS := Lib.hid hs
        clear hc hs hF hrs d1
        go_wp2
        go_roundw
        case rel => exact ⟨k + 1, hlt, by go_num, by rw [HS.out], hb⟩
        case measure => simp [intOf]; omega
    · obtain rfl : k = n := by omega
      go_wp2
      go_ret
      exact ⟨rfl, hb⟩
set_option maxHeartbeats 1000000 in
theorem PlanAll_i (A : Option Addr) (n cap : Nat) (p : List (List Int)) (w : World) (h : Tabs w A n p) (hn : n ≤ 1000) (hx : ∀ k, Sml (p.getD k [])) (hl : ∀ k, k < n → (p.getD k []).length = 6) :
    Calls Tryd.prog 32 #[.slice A n cap] w fun e w' => e = .returned (.int .i64 (allL p n)) ∧ Below w.heap.size w w' := by
  go_enter Tryd.func32, Tryd.ntmps32
  go_wp2
  go_loopw [3, 8] (fun v i wr => ∃ k : Nat, k ≤ n ∧ i = .int .i64 k ∧ v = .int .i64 (allL p k) ∧ Below w.heap.size w wr) (fun _ i _ => n - (intOf i).toNat)
  case atStart => exact ⟨0, by omega, rfl, rfl, by (repeat (first | exact Below.refl _ _ | assumption | refine Below.alloc ?_ (by first | omega | (simp; done) | (simp; omega)) _ | refine Below.drew ?_ | refine bdN ?_ _ | refine Below.setCell ?_ (by first | omega | (simp; done) | (simp; omega)) _))⟩
  case round =>
    obtain ⟨k, hk, rfl, rfl, hb⟩ := hrel
    by_cases hlt : k < n
    · obtain ⟨b, off, rfl, hbl, hc⟩ := h.2 (by omega)
      obtain ⟨Ak, ck, d1, d2, d3⟩ := hc k hlt
      have c1 := (hb.cell (p := ⟨b, off + k, none⟩) hbl).trans d1
      rw [hl k hlt] at c1 d2 d3
      have P0 := PlanUnits_i Ak 6 ck (p.getD k []) wr (d3.below hb) (by omega) (hx k)
      have bd := allL_bd hx k
      have bk := sumL_bd (hx k) 6
      have hs := show allL p (k + 1) = allL p k + sumL (p.getD k []) 6 from rfl
      obtain ⟨F, hF⟩ : ∃ F, allL p k = F := ⟨_, rfl⟩
      obtain ⟨z, hz⟩ : ∃ z, sumL (p.getD k []) 6 = z := ⟨_, rfl⟩
      rw [hF] at bd hs ⊢
      rw [hz] at bk hs P0
      have HS := Lib.hid hs
      have i1 : (0 : Int) ≤ (k : Int) := by omega
      have i2 : (k : Int) < (n : Int) := by omega
      clear hc hs hF hz d1 d3
      go_wp2_with (go_at_call 70; refine P0.mono ?_; rintro e w2 ⟨rfl, hb2⟩)
      go_roundw
      case rel => exact ⟨k + 1, hlt, by go_num, by rw [HS.out], bt hb hb2⟩
      case measure => simp [intOf]; omega
    · obtain rfl : k = n := by omega
      go_wp2
      go_ret
      exact ⟨rfl, hb⟩
end Go.Proofs.YtoiaggjjfahabaaDoor
