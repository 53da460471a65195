/- The reference's Enough: what it computes. Conditions: the needs' numbers are small, at most 1000 of them. -/
import Derived.Test.YtoombdhchikbmaaDoorChg8
namespace Go.Proofs.YtoombdhchikbmaaDoor
open Go.RowKit
set_option linter.unusedVariables false
def SmD (qs : List Quad) : Prop := ∀ i, -1000000 ≤ (qs.getD i q0).d ∧ (qs.getD i q0).d ≤ 1000000
theorem sumL_sd {qs : List Quad} (h : SmD qs) (k : Nat) (hk : k ≤ qs.length) : -1000000 * k ≤ sumL (usL qs) k ∧ sumL (usL qs) k ≤ 1000000 * k := by
  induction k with
  | zero => simp [sumL]
  | succ k ih =>
    have := ih (by omega)
    have hb := h k
    have e : sumL (usL qs) (k + 1) = sumL (usL qs) k + (usL qs).getD k 0 := rfl
    rw [e, usL_at (by omega)]
    omega
set_option maxRecDepth 100000 in
set_option maxHeartbeats 2000000 in
theorem Enough_s (A C : Option Addr) (n c1 c2 m : Nat) (qs : List Quad) (cs : List Int) (w : World) (h : Books w A n qs) (hC : Ints w C m cs) (hn : n ≤ 1000) (hm : m ≤ 1048576) (hq : SmA qs) (hd : SmD qs) :
    Calls Tryd.prog 24 #[.slice A n c1, .slice C m c2] w fun e w' => e = .returned (.bool (enV qs cs)) ∧ Below w.heap.size w w' := by
  have KN := fun w h => NeedsValid_s A n c1 qs w h (by omega) hq
  have KF := fun w h => FeedValid_s C m c2 cs w h hm
  have KM := fun w h hC => MostUnits_s A C n c1 c2 m qs cs w h hC (by omega) hm hq
  have hlen := h.1
  go_enter Tryd.func24, Tryd.ntmps24
  go_wp2
  go_loopw [5, 6] (fun v i wr => ∃ k : Nat, k ≤ n ∧ i = .int .i64 k ∧ v = .int .i64 (sumL (usL qs) k) ∧ Below w.heap.size w wr) (fun _ i _ => n - (intOf i).toNat)
  case atStart => exact ⟨0, by omega, rfl, by simp [sumL], Below.refl _ _⟩
  case round =>
    obtain ⟨k, hk, rfl, rfl, hb⟩ := hrel
    have sb := sumL_sd hd k (by omega)
    have hsz := hb.size
    by_cases hlt : k < n
    · obtain ⟨b, off, rfl, hlb, hc⟩ := h.2 (by omega)
      obtain ⟨r0, r1, r2, r3⟩ := hc k hlt
      have s0 := (hb.cell (p := ⟨b, off + k * 4, none⟩) hlb).trans r0
      have s1 := (hb.cell (p := ⟨b, off + k * 4 + 1, none⟩) hlb).trans r1
      have s2 := (hb.cell (p := ⟨b, off + k * 4 + 2, none⟩) hlb).trans r2
      have s3 := (hb.cell (p := ⟨b, off + k * 4 + 3, none⟩) hlb).trans r3
      have hs := show sumL (usL qs) (k + 1) = sumL (usL qs) k + (usL qs).getD k 0 from rfl
      have ub := hd k
      rw [usL_at (by omega)] at hs
      obtain ⟨q, hq⟩ : ∃ q, qs.getD k q0 = q := ⟨_, rfl⟩
      rw [hq] at s0 s1 s2 s3 hs ub
      obtain ⟨F, hF⟩ : ∃ F, sumL (usL qs) k = F := ⟨_, rfl⟩
      rw [hF] at sb hs ⊢
      have HS := Lib.hid hs
      have HB := Lib.hid hb
      clear hc r0 r1 r2 r3 hq hF hs hb
      go_wp2
      go_roundw
      case rel => exact ⟨k + 1, hlt, by go_num, by rw [HS.out], HB.out⟩
      case measure => simp [intOf]; omega
    · obtain rfl : k = n := by omega
      obtain ⟨S, hS⟩ : ∃ S, sumL (usL qs) k = S := ⟨_, rfl⟩
      rw [hS] at sb ⊢
      have N0 := KN wr (h.below hb)
      by_cases v1 : nsV qs = true
      · rw [v1] at N0
        by_cases v2 : fvV cs = true
        · have hmu := muV_nn v1 v2
          rw [v2] at KF
          rw [hmu.1] at KM
          obtain ⟨L, hL⟩ : ∃ L, lcV (usL qs) (rssL qs) cs = L := ⟨_, rfl⟩
          have hen : Hid (enV qs cs = (L == S)) := by
            show _ = _
            unfold enV
            rw [Bool.eq_iff_iff]
            simp [v1, v2, hL, hlen, hS]
          rw [hL] at KM hmu
          have hmu2 := hmu.2
          clear v1 v2 hmu hL hS
          go_wp2_with (first
            | (go_at_call 25; refine N0.mono ?_; rintro e w1 ⟨rfl, hb1⟩; have B1 := bt hb hb1; clear N0 hb)
            | (go_at_call 26; refine (KF _ (hC.below B1)).mono ?_; rintro e w2 ⟨rfl, hb2⟩; have B2 := bt B1 hb2; clear B1)
            | (go_at_call 41; refine (KM _ (h.below B2) (hC.below B2)).mono ?_; rintro e w3 ⟨rfl, hb3⟩; have B3 := bt B2 hb3; clear B2))
          go_ret
          exact ⟨ret_bool (by rw [hen.out]), B3⟩
        · have v2' : fvV cs = false := by simpa using v2
          rw [v2'] at KF
          have hen : Hid (enV qs cs = false) := by
            show _ = _
            unfold enV
            rw [decide_eq_false_iff_not]
            rintro ⟨_, g2, _⟩
            exact v2 g2
          clear v1 v2 v2' hS KM
          go_wp2_with (first
            | (go_at_call 25; refine N0.mono ?_; rintro e w1 ⟨rfl, hb1⟩; have B1 := bt hb hb1; clear N0 hb)
            | (go_at_call 26; refine (KF _ (hC.below B1)).mono ?_; rintro e w2 ⟨rfl, hb2⟩; have B2 := bt B1 hb2; clear B1))
          go_ret
          exact ⟨ret_bool (by rw [hen.out]), B2⟩
      · have v1' : nsV qs = false := by simpa using v1
        rw [v1'] at N0
        have hen : Hid (enV qs cs = false) := by
          show _ = _
          unfold enV
          rw [decide_eq_false_iff_not]
          rintro ⟨g1, _⟩
          exact v1 g1
        clear v1 v1' hS KM KF
        go_wp2_with (go_at_call 25; refine N0.mono ?_; rintro e w1 ⟨rfl, hb1⟩; have B1 := bt hb hb1; clear N0 hb)
        go_ret
        exact ⟨ret_bool (by rw [hen.out]), B1⟩
end Go.Proofs.YtoombdhchikbmaaDoor
