/- TightHours, Enough, PlanUnits, PlanLoad, PlanAll of the program: what they compute. Conditions: short lists of small numbers. -/
import Derived.Test.YtoombdhchikbmaaDoorChg4
namespace Go.Proofs.YtoombdhchikbmaaDoor
open Go.RowKit
set_option linter.unusedVariables false
theorem tg_ex (us : List Int) (rss : List (List Int)) (cs : List Int) : ∃ s, s < 64 ∧ cutV us rss cs s = lcV us rss cs ∧ ∀ t, t < s → cutV us rss cs t ≠ lcV us rss cs := by
  obtain ⟨s0, h0, e0⟩ := lcV_at us rss cs
  have key : ∀ n s, s ≤ n → s < 64 → cutV us rss cs s = lcV us rss cs → ∃ s, s < 64 ∧ cutV us rss cs s = lcV us rss cs ∧ ∀ t, t < s → cutV us rss cs t ≠ lcV us rss cs := by
    intro n
    induction n with
    | zero => intro s hs h1 h2; exact ⟨s, h1, h2, fun t ht => by omega⟩
    | succ n ih =>
      intro s hs h1 h2
      by_cases hx : ∃ t, t < s ∧ cutV us rss cs t = lcV us rss cs
      · obtain ⟨t, t1, t2⟩ := hx; exact ih t (by omega) (by omega) t2
      · exact ⟨s, h1, h2, fun t ht he => hx ⟨t, ht, he⟩⟩
  exact key s0 s0 (Nat.le_refl _) h0 e0.symm
noncomputable def tgS (us : List Int) (rss : List (List Int)) (cs : List Int) : Nat := Classical.choose (tg_ex us rss cs)
theorem tgS_spec (us : List Int) (rss : List (List Int)) (cs : List Int) : tgS us rss cs < 64 ∧ cutV us rss cs (tgS us rss cs) = lcV us rss cs ∧ ∀ t, t < tgS us rss cs → cutV us rss cs t ≠ lcV us rss cs := Classical.choose_spec (tg_ex us rss cs)
noncomputable def thV (qs : List Quad) (cs : List Int) : Int := if nsV qs = true ∧ fvV cs = true then (tgS (usL qs) (rssL qs) cs : Int) else -1
theorem muV_nn {qs : List Quad} {cs : List Int} (h1 : nsV qs = true) (h2 : fvV cs = true) : muV qs cs = lcV (usL qs) (rssL qs) cs ∧ 0 ≤ lcV (usL qs) (rssL qs) cs ∧ lcV (usL qs) (rssL qs) cs ≤ 106000 := by
  refine ⟨by unfold muV; rw [if_pos ⟨h1, h2⟩], ?_⟩
  exact leastTo_bd (us_Bd h1) (rs_Bd h1) (fv_Bd h2) lastSet (by simp [usL]; have := (ns_at h1).1; omega)
set_option maxHeartbeats 1000000 in
theorem TightHours_i (A C : Option Addr) (n c1 c2 m : Nat) (qs : List Quad) (cs : List Int) (w : World) (h : Books w A n qs) (hC : Ints w C m cs) (hn : n ≤ 1048576) (hm : m ≤ 1048576) :
    Calls Tryd.prog 30 #[.slice A n c1, .slice C m c2] w fun e w' => e = .returned (.int .i64 (thV qs cs)) ∧ Below w.heap.size w w' := by
  by_cases hv : nsV qs = true ∧ fvV cs = true
  · obtain ⟨hv1, hv2⟩ := hv
    have hmu := muV_nn hv1 hv2
    have M0 := MostUnits_i A C n c1 c2 m qs cs w h hC hn hm
    rw [hmu.1] at M0
    have hth : Hid (thV qs cs = tgS (usL qs) (rssL qs) cs) := by show _ = _; unfold thV; rw [if_pos ⟨hv1, hv2⟩]
    obtain ⟨t1, t2, t3⟩ := tgS_spec (usL qs) (rssL qs) cs
    have HV1 := Lib.hid hv1
    have HV2 := Lib.hid hv2
    obtain ⟨L, hL⟩ : ∃ L, lcV (usL qs) (rssL qs) cs = L := ⟨_, rfl⟩
    obtain ⟨S, hS⟩ : ∃ S, tgS (usL qs) (rssL qs) cs = S := ⟨_, rfl⟩
    rw [hL] at M0 hmu t2 t3
    rw [hS] at t1 t2 t3
    have T2 := Lib.hid t2
    have T3 := Lib.hid t3
    have HS := Lib.hid hS
    have hmu2 := hmu.2
    clear hv1 hv2 hmu t2 t3 hL hS
    go_enter Tryd.func30, Tryd.ntmps30
    go_wp2_with (go_at_call 32; refine M0.mono ?_; rintro e w1 ⟨rfl, hb1⟩)
    clear M0
    go_loopw [6] (fun i wr => ∃ s : Nat, s ≤ S ∧ i = .int .i64 s ∧ Below w.heap.size w wr) (fun i _ => S - (intOf i).toNat)
    case atStart => exact ⟨0, by omega, rfl, hb1⟩
    case round =>
      clear hb1
      obtain ⟨s, hs, rfl, hb⟩ := hrel
      have C0 := CutUnits_i A C n c1 c2 m qs cs s wr (h.below hb) (hC.below hb) hn hm HV1.out HV2.out (by omega)
      by_cases hlt : s < S
      · have hne := T3.out s hlt
        obtain ⟨X, hX⟩ : ∃ X, cutV (usL qs) (rssL qs) cs s = X := ⟨_, rfl⟩
        rw [hX] at C0 hne
        have hb2 : (X != L) = true := by simpa using hne
        clear hX hne
        go_wp2_with (go_at_call 34; refine C0.mono ?_; rintro e w2 ⟨rfl, hb2⟩)
        go_roundw
        case rel => exact ⟨s + 1, by omega, by go_num, bt hb hb2⟩
        case measure => simp [intOf]; omega
      · obtain rfl : s = S := by omega
        rw [T2.out] at C0
        go_wp2_with (go_at_call 34; refine C0.mono ?_; rintro e w2 ⟨rfl, hb2⟩)
        go_ret
        exact ⟨ret_int (by rw [hth.out, HS.out]), bt hb hb2⟩
  · have M0 := MostUnits_i A C n c1 c2 m qs cs w h hC hn hm
    have hmu : muV qs cs = -1 := by unfold muV; rw [if_neg hv]
    have hth : Hid (thV qs cs = -1) := by show _ = _; unfold thV; rw [if_neg hv]
    rw [hmu] at M0
    clear hmu hv
    go_enter Tryd.func30, Tryd.ntmps30
    go_wp2_with (go_at_call 32; refine M0.mono ?_; rintro e w1 ⟨rfl, hb1⟩)
    go_ret
    exact ⟨ret_int hth.out.symm, hb1⟩
/-- Enough -/
def enV (qs : List Quad) (cs : List Int) : Bool := decide (nsV qs = true ∧ fvV cs = true ∧ lcV (usL qs) (rssL qs) cs = sumL (usL qs) qs.length)
theorem sumL_us {qs : List Quad} (h : nsV qs = true) (k : Nat) : 0 ≤ sumL (usL qs) k ∧ sumL (usL qs) k ≤ 30 * k := by
  induction k with
  | zero => simp [sumL]
  | succ k ih => have := us_bd h k; unfold sumL; omega
set_option maxHeartbeats 1000000 in
theorem Enough_i (A C : Option Addr) (n c1 c2 m : Nat) (qs : List Quad) (cs : List Int) (w : World) (h : Books w A n qs) (hC : Ints w C m cs) (hn : n ≤ 1048576) (hm : m ≤ 1048576) :
    Calls Tryd.prog 23 #[.slice A n c1, .slice C m c2] w fun e w' => e = .returned (.bool (enV qs cs)) ∧ Below w.heap.size w w' := by
  by_cases hv : nsV qs = true ∧ fvV cs = true
  · obtain ⟨hv1, hv2⟩ := hv
    have hmu := muV_nn hv1 hv2
    have M0 := MostUnits_i A C n c1 c2 m qs cs w h hC hn hm
    rw [hmu.1] at M0
    have hen : Hid (enV qs cs = decide (lcV (usL qs) (rssL qs) cs = sumL (usL qs) qs.length)) := by show _ = _; unfold enV; rw [decide_eq_decide]; exact ⟨fun h => h.2.2, fun h => ⟨hv1, hv2, h⟩⟩
    have n5 := (ns_at hv1).1
    have hlen := h.1
    have HV1 := Lib.hid hv1
    obtain ⟨L, hL⟩ : ∃ L, lcV (usL qs) (rssL qs) cs = L := ⟨_, rfl⟩
    rw [hL] at M0 hmu hen
    have hmu2 := hmu.2
    clear hv1 hv2 hmu hL
    go_enter Tryd.func23, Tryd.ntmps23
    go_wp2_with (go_at_call 32; refine M0.mono ?_; rintro e w1 ⟨rfl, hb1⟩)
    clear M0
    go_loopw [5, 15] (fun v i wr => ∃ k : Nat, k ≤ n ∧ i = .int .i64 k ∧ v = .int .i64 (L - sumL (usL qs) k) ∧ Below w.heap.size w wr) (fun _ i _ => n - (intOf i).toNat)
    case atStart => exact ⟨0, by omega, rfl, by simp [sumL], hb1⟩
    case round =>
      clear hb1
      obtain ⟨k, hk, rfl, rfl, hb⟩ := hrel
      have sb := sumL_us HV1.out k
      have hsz := hb.size
      by_cases hlt : k < n
      · obtain ⟨b, off, rfl, hlb, hc⟩ := h.2 (by omega)
        obtain ⟨r0, r1, r2, r3⟩ := hc k hlt
        have s0 := (hb.cell (p := ⟨b, off + k * 4, none⟩) hlb).trans r0
        have s1 := (hb.cell (p := ⟨b, off + k * 4 + 1, none⟩) hlb).trans r1
        have s2 := (hb.cell (p := ⟨b, off + k * 4 + 2, none⟩) hlb).trans r2
        have s3 := (hb.cell (p := ⟨b, off + k * 4 + 3, none⟩) hlb).trans r3
        have hs := show sumL (usL qs) (k + 1) = sumL (usL qs) k + (usL qs).getD k 0 from rfl
        have ub := us_bd HV1.out k
        rw [usL_at (by omega)] at hs ub
        obtain ⟨q, hq⟩ : ∃ q, qs.getD k q0 = q := ⟨_, rfl⟩
        rw [hq] at s0 s1 s2 s3 hs ub
        obtain ⟨F, hF⟩ : ∃ F, sumL (usL qs) k = F := ⟨_, rfl⟩
        rw [hF] at sb hs ⊢
        have HS := Lib.hid hs
        have HB := Lib.hid hb
        clear hc r0 r1 r2 r3 hq hF hs hb
        go_wp2
        go_roundw
        case rel => exact ⟨k + 1, hlt, by go_num, by rw [HS.out]; congr 1; omega, HB.out.alloc hsz _⟩
        case measure => simp [intOf]; omega
      · obtain rfl : k = n := by omega
        go_wp2
        go_ret
        exact ⟨ret_bool (by rw [hen.out, hlen, Bool.eq_iff_iff]; simp; omega), hb⟩
  · have M0 := MostUnits_i A C n c1 c2 m qs cs w h hC hn hm
    have hmu : muV qs cs = -1 := by unfold muV; rw [if_neg hv]
    have hen : Hid (enV qs cs = false) := by show _ = _; unfold enV; rw [decide_eq_false_iff_not]; rintro ⟨g1, g2, _⟩; exact hv ⟨g1, g2⟩
    rw [hmu] at M0
    clear hmu hv
    go_enter Tryd.func23, Tryd.ntmps23
    go_wp2_with (go_at_call 32; refine M0.mono ?_; rintro e w1 ⟨rfl, hb1⟩)
    go_ret
    exact ⟨ret_bool hen.out.symm, hb1⟩
/-- numbers of a plan are small -/
def Sml (xs : List Int) : Prop := ∀ i : Nat, -1000000 ≤ xs.getD i 0 ∧ xs.getD i 0 ≤ 1000000
theorem sumL_bd {xs : List Int} (h : Sml xs) (k : Nat) : -1000000 * k ≤ sumL xs k ∧ sumL xs k ≤ 1000000 * k := by
  induction k with
  | zero => simp [sumL]
  | succ k ih => have := h k; unfold sumL; omega
theorem PlanUnits_i (A : Option Addr) (n cap : Nat) (xs : List Int) (w : World) (h : Ints w A n xs) (hn : n ≤ 1000000) (hx : Sml xs) :
    Calls Tryd.prog 28 #[.slice A n cap] w fun e w' => e = .returned (.int .i64 (sumL xs n)) ∧ Below w.heap.size w w' := by
  go_enter Tryd.func28, Tryd.ntmps28
  go_wp2
  go_loopw [3, 8] (fun v i wr => ∃ k : Nat, k ≤ n ∧ i = .int .i64 k ∧ v = .int .i64 (sumL xs k) ∧ Below w.heap.size w wr) (fun _ i _ => n - (intOf i).toNat)
  case atStart => exact ⟨0, by omega, rfl, rfl, by (repeat (first | exact Below.refl _ _ | assumption | refine Below.alloc ?_ (by first | omega | (simp; done) | (simp; omega)) _ | refine Below.drew ?_ | refine bdN ?_ _ | refine Below.setCell ?_ (by first | omega | (simp; done) | (simp; omega)) _))⟩
  case round =>
    obtain ⟨k, hk, rfl, rfl, hb⟩ := hrel
    by_cases hlt : k < n
    · obtain ⟨b, off, rfl, hbl, hc⟩ := h.2 (by omega)
      have c1 : wr.cell? ⟨b, off + k, none⟩ = some (.int .i64 (xs.getD k 0)) := (hb.cell (p := ⟨b, off + k, none⟩) hbl).trans (hc k hlt)
      have bd := sumL_bd hx k
      have bk := hx k
      have hs := show sumL xs (k + 1) = sumL xs k + xs.getD k 0 from rfl
      obtain ⟨F, hF⟩ : ∃ F, sumL xs k = F := ⟨_, rfl⟩
      obtain ⟨z, hz⟩ : ∃ z, xs.getD k 0 = z := ⟨_, rfl⟩
      rw [hF] at bd hs ⊢
      rw [hz] at c1 bk hs
      have HS := Lib.hid hs
      have i1 : (0 : Int) ≤ (k : Int) := by omega
      have i2 : (k : Int) < (n : Int) := by omega
      clear hc hs hF hz
      go_wp2
      go_roundw
      case rel => exact ⟨k + 1, hlt, by go_num, by rw [HS.out], hb⟩
      case measure => simp [intOf]; omega
    · obtain rfl : k = n := by omega
      go_wp2
      go_ret
      exact ⟨rfl, hb⟩
theorem loadL_bd {p : List (List Int)} (h : ∀ k, Sml (p.getD k [])) (j k : Nat) : -1000000 * k ≤ loadL p j k ∧ loadL p j k ≤ 1000000 * k := by
  induction k with
  | zero => simp [loadL]
  | succ k ih => have := h k j; unfold loadL; omega
theorem allL_bd {p : List (List Int)} (h : ∀ k, Sml (p.getD k [])) (k : Nat) : -6000000 * k ≤ allL p k ∧ allL p k ≤ 6000000 * k := by
  induction k with
  | zero => simp [allL]
  | succ k ih => have := sumL_bd (h k) 6; unfold allL; omega
set_option maxHeartbeats 1000000 in
theorem PlanLoad_i (A : Option Addr) (n cap : Nat) (p : List (List Int)) (j : Nat) (w : World) (h : Tabs w A n p) (hn : n ≤ 1000) (hx : ∀ k, Sml (p.getD k [])) :
    Calls Tryd.prog 33 #[.slice A n cap, .int .i64 j] w fun e w' => e = .returned (.int .i64 (loadL p j n)) ∧ Below w.heap.size w w' := by
  go_enter Tryd.func33, Tryd.ntmps33
  go_wp2
  go_loopw [5, 10] (fun v i wr => ∃ k : Nat, k ≤ n ∧ i = .int .i64 k ∧ v = .int .i64 (loadL p j k) ∧ Below w.heap.size w wr) (fun _ i _ => n - (intOf i).toNat)
  case atStart => exact ⟨0, by omega, rfl, rfl, by (repeat (first | exact Below.refl _ _ | assumption | refine Below.alloc ?_ (by first | omega | (simp; done) | (simp; omega)) _ | refine Below.drew ?_ | refine bdN ?_ _ | refine Below.setCell ?_ (by first | omega | (simp; done) | (simp; omega)) _))⟩
  case round =>
    obtain ⟨k, hk, rfl, rfl, hb⟩ := hrel
    by_cases hlt : k < n
    · obtain ⟨b, off, rfl, hbl, hc⟩ := h.2 (by omega)
      obtain ⟨Ak, ck, d1, d2, d3⟩ := hc k hlt
      have c1 := (hb.cell (p := ⟨b, off + k, none⟩) hbl).trans d1
      have bd := loadL_bd hx j k
      have bk := hx k j
      have hs := show loadL p j (k + 1) = loadL p j k + (p.getD k []).getD j 0 from rfl
      obtain ⟨F, hF⟩ : ∃ F, loadL p j k = F := ⟨_, rfl⟩
      obtain ⟨rs, hrs⟩ : ∃ rs, p.getD k [] = rs := ⟨_, rfl⟩
      rw [hF] at bd hs ⊢
      rw [hrs] at c1 bk hs d2 d3
      have i1 : (0 : Int) ≤ (k : Int) := by omega
      have i2 : (k : Int) < (n : Int) := by omega
      by_cases hj : j < rs.length
      · obtain ⟨b2, off2, rfl, hbl2, hc2⟩ := d3.2 (by omega)
        have c2 := (hb.cell (p := ⟨b2, off2 + j, none⟩) hbl2).trans (hc2 j hj)
        obtain ⟨z, hz⟩ : ∃ z, rs.getD j 0 = z := ⟨_, rfl⟩
        rw [hz] at c2 bk hs
        have HS := Lib.hid hs
        have i3 : (0 : Int) ≤ (j : Int) := by omega
        have i4 : (j : Int) < (rs.length : Int) := by omega
        clear hc hs hF hz hrs d1 hc2
        go_wp2
        go_roundw
        case rel => exact ⟨k + 1, hlt, by go_num, by rw [HS.out], hb⟩
        case measure => simp [intOf]; omega
      · rw [getD_big rs 0 j (by omega), Int.add_zero] at hs
        have HS := Lib.hid hs
        clear hc hs hF hrs d1
        go_wp2
        go_roundw
        case rel => exact ⟨k + 1, hlt, by go_num, by rw [HS.out], hb⟩
        case measure => simp [intOf]; omega
    · obtain rfl : k = n := by omega
      go_wp2
      go_ret
      exact ⟨rfl, hb⟩
set_option maxHeartbeats 1000000 in
theorem PlanAll_i (A : Option Addr) (n cap : Nat) (p : List (List Int)) (w : World) (h : Tabs w A n p) (hn : n ≤ 1000) (hx : ∀ k, Sml (p.getD k [])) (hl : ∀ k, k < n → (p.getD k []).length = 6) :
    Calls Tryd.prog 43 #[.slice A n cap] w fun e w' => e = .returned (.int .i64 (allL p n)) ∧ Below w.heap.size w w' := by
  go_enter Tryd.func43, Tryd.ntmps43
  go_wp2
  go_loopw [3, 8] (fun v i wr => ∃ k : Nat, k ≤ n ∧ i = .int .i64 k ∧ v = .int .i64 (allL p k) ∧ Below w.heap.size w wr) (fun _ i _ => n - (intOf i).toNat)
  case atStart => exact ⟨0, by omega, rfl, rfl, by (repeat (first | exact Below.refl _ _ | assumption | refine Below.alloc ?_ (by first | omega | (simp; done) | (simp; omega)) _ | refine Below.drew ?_ | refine bdN ?_ _ | refine Below.setCell ?_ (by first | omega | (simp; done) | (simp; omega)) _))⟩
  case round =>
    obtain ⟨k, hk, rfl, rfl, hb⟩ := hrel
    by_cases hlt : k < n
    · obtain ⟨b, off, rfl, hbl, hc⟩ := h.2 (by omega)
      obtain ⟨Ak, ck, d1, d2, d3⟩ := hc k hlt
      have c1 := (hb.cell (p := ⟨b, off + k, none⟩) hbl).trans d1
      rw [hl k hlt] at c1 d2 d3
      have P0 := PlanUnits_i Ak 6 ck (p.getD k []) wr (d3.below hb) (by omega) (hx k)
      have bd := allL_bd hx k
      have bk := sumL_bd (hx k) 6
      have hs := show allL p (k + 1) = allL p k + sumL (p.getD k []) 6 from rfl
      obtain ⟨F, hF⟩ : ∃ F, allL p k = F := ⟨_, rfl⟩
      obtain ⟨z, hz⟩ : ∃ z, sumL (p.getD k []) 6 = z := ⟨_, rfl⟩
      rw [hF] at bd hs ⊢
      rw [hz] at bk hs P0
      have HS := Lib.hid hs
      have i1 : (0 : Int) ≤ (k : Int) := by omega
      have i2 : (k : Int) < (n : Int) := by omega
      clear hc hs hF hz d1 d3
      go_wp2_with (go_at_call 28; refine P0.mono ?_; rintro e w2 ⟨rfl, hb2⟩)
      go_roundw
      case rel => exact ⟨k + 1, hlt, by go_num, by rw [HS.out], bt hb hb2⟩
      case measure => simp [intOf]; omega
    · obtain rfl : k = n := by omega
      go_wp2
      go_ret
      exact ⟨rfl, hb⟩
end Go.Proofs.YtoombdhchikbmaaDoor
