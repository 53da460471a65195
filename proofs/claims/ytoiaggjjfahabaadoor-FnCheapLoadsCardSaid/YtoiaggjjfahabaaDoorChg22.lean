/- CheapLoads of the reference: what it computes. Conditions: short lists, small numbers in the needs. -/
import Derived.Test.YtoiaggjjfahabaaDoorChg21
namespace Go.Proofs.YtoiaggjjfahabaaDoor
open Go.RowKit
set_option linter.unusedVariables false
/-- a result []int that reads as xs -/
def CLs (w : World) (xs : List Int) (e : Ending) (w' : World) : Prop := ∃ A c, e = .returned (.slice A xs.length c) ∧ Ints w' A xs.length xs ∧ Below w.heap.size w w'
theorem CLs.nil (w w' : World) (A : Option Addr) (c : Nat) (hb : Below w.heap.size w w') : CLs w [] (.returned (.slice A 0 c)) w' := ⟨A, c, rfl, ⟨rfl, fun h => absurd h (by simp)⟩, hb⟩
theorem CLr.s {w w' : World} {xs : List Int} {e : Ending} (r : CLr w xs e w') : CLs w xs e w' := by obtain ⟨A, c, h1, h2, _, h4⟩ := r; exact ⟨A, c, h1, h2, h4⟩
theorem or_add : ∀ s, s < 64 → ∀ b, b < 6 → s.testBit b = false → s ||| 2 ^ b = s + 2 ^ b := by decide +kernel
/-- the step of the choice -/
theorem bst_step (ps : List Int) (s h : Nat) : bstTo ps s (h + 1) = if s.testBit h = false ∧ (bstTo ps s h < 0 ∨ ps.getD h 0 < ps.getD (bstTo ps s h).toNat 0) then (h : Int) else bstTo ps s h := rfl
theorem bst_cases (ps : List Int) (s h : Nat) : bstTo ps s h = -1 ∨ ∃ b : Nat, bstTo ps s h = b ∧ b < h := by
  rcases bstTo_spec ps s h with h1 | ⟨b, h1, h2, _⟩
  · exact .inl h1.1
  · exact .inr ⟨b, h1, h2⟩
theorem smA_ns {qs : List Quad} (h : nsV qs = true) : SmA qs := fun i => by
  rcases Nat.lt_or_ge i qs.length with g | g
  · have := (ns_at h).2 i g; omega
  · rw [getD_big _ _ _ g]; simp [q0]
theorem ld_step (us : List Int) (rss : List (List Int)) (cs ps : List Int) {n b : Nat} (hn : n < 6) (hb : (ordL ps).getD n 0 = b) :
    ldTo us rss cs (ordL ps) (n + 1) = (ldTo us rss cs (ordL ps) n).set b (fV us rss cs (spS ps (n + 1)) - fV us rss cs (spS ps n)) := by
  show (ldTo us rss cs (ordL ps) n).set ((ordL ps).getD n 0) _ = _
  rw [hb, pre_sp ps (n + 1) (by omega), pre_sp ps n (by omega)]
set_option maxRecDepth 100000 in
set_option maxHeartbeats 8000000 in
theorem CheapLoads_s_yes (A C Q : Option Addr) (n c1 c2 c3 : Nat) (qs : List Quad) (cs ps : List Int) (w : World) (h : Books w A n qs) (hC : Ints w C 6 cs) (hQ : Ints w Q 6 ps) (hn : n ≤ 1048576) (hv1 : nsV qs = true) (hv2 : fvV cs = true) (hv3 : fvV ps = true) :
    Calls Tryd.prog 25 #[.slice A n c1, .slice C 6 c2, .slice Q 6 c3] w (CLs w (clL (usL qs) (rssL qs) cs ps)) := by
  have sa := smA_ns hv1
  have K1 : ∀ w, Books w A n qs → Calls Tryd.prog 59 #[.slice A n c1] w fun e w' => e = .returned (.bool true) ∧ Below w.heap.size w w' := fun w h => by have := NeedsValid_s A n c1 qs w h hn sa; rw [hv1] at this; exact this
  have K2 : ∀ w, Ints w C 6 cs → Calls Tryd.prog 60 #[.slice C 6 c2] w fun e w' => e = .returned (.bool true) ∧ Below w.heap.size w w' := fun w h => by have := FeedValid_s C 6 c2 cs w h (by omega); rw [hv2] at this; exact this
  have K3 : ∀ w, Ints w Q 6 ps → Calls Tryd.prog 60 #[.slice Q 6 c3] w fun e w' => e = .returned (.bool true) ∧ Below w.heap.size w w' := fun w h => by have := FeedValid_s Q 6 c3 ps w h (by omega); rw [hv3] at this; exact this
  have hmk := run_make_row' (P := Tryd.prog) 28 3 (.int .i64 0) 8 Tryd.underlying28 infoIn rfl .i64 .i64 6 (by omega) (by omega)
  rw [show ((6 : Nat) : Int) = 6 from rfl] at hmk
  have L40 : (∀ (s : Nat) (w : World), Ints w C 6 cs → Calls Tryd.prog 62 #[.slice C 6 c2, .int .i64 s] w fun e w' => ∃ g c, e = .returned (.slice (some ⟨g, 0, none⟩) 6 c) ∧ Ints w' (some ⟨g, 0, none⟩) 6 (rstr cs s) ∧ Below w.heap.size w w') := fun s w h => l4Some_s C c2 s cs w h (fv_at hv2).2
  have MU0 : (∀ (g c : Nat) (s : Nat) (w : World), Books w A n qs → Ints w (some ⟨g, 0, none⟩) 6 (rstr cs s) → Calls Tryd.prog 61 #[.slice A n c1, .slice (some ⟨g, 0, none⟩) 6 c] w fun e w' => e = .returned (.int .i64 (fV (usL qs) (rssL qs) cs s)) ∧ Below w.heap.size w w') := fun g c s w h h' => by
    have := MostUnits_s A (some ⟨g, 0, none⟩) n c1 c 6 qs (rstr cs s) w h h' hn (by omega) sa
    rw [(muV_nn hv1 (fv_rstr hv2 s)).1] at this; exact this
  have FB0 : (∀ s : Nat, 0 ≤ fV (usL qs) (rssL qs) cs s ∧ fV (usL qs) (rssL qs) cs s ≤ 106000) := fun s => (muV_nn hv1 (fv_rstr hv2 s)).2
  have MU := Lib.hid MU0
  have L4 := Lib.hid L40
  have FB := Lib.hid FB0
  have H0 := Lib.hid h
  have HC0 := Lib.hid hC
  have HQ0 := Lib.hid hQ
  clear hv1 hv2 hv3 MU0 L40 FB0 sa
  obtain ⟨qb, qo, rfl⟩ := hQ.addr (by omega)
  go_enter Tryd.func25, Tryd.ntmps25
  go_upto_region 3 with (first
    | (go_at_call 59; ((with_reducible refine (K1 _ h).mono ?_); rintro e w1 ⟨rfl, hb⟩; replace h := h.below hb; replace hC := hC.below hb; replace hQ := hQ.below hb; have hw := hb; clear hb K1))
    | (go_at_call 60; ((with_reducible refine (K2 _ hC).mono ?_); rintro e w1 ⟨rfl, hb⟩; replace h := h.below hb; replace hC := hC.below hb; replace hQ := hQ.below hb; replace hw := bt hw hb; clear hb K2))
    | (go_at_call 60; ((with_reducible refine (K3 _ hQ).mono ?_); rintro e w1 ⟨rfl, hb⟩; replace h := h.below hb; replace hC := hC.below hb; replace hQ := hQ.below hb; replace hw := bt hw hb; clear hb K3)))
  clear h hC hQ
  have hsz := hw.size
  have hB1 : Blk (w1.alloc (.cells (madeCells #[.int .i64 0] 6) 3)) w1.heap.size 3 (ints (ldTo (usL qs) (rssL qs) cs (ordL ps) 0)) := by
    show Blk _ _ _ (ints (List.replicate 6 0)); rw [← ints_made]; exact Blk.new _ _ _
  have hbw : Below w.heap.size w (w1.alloc (.cells (madeCells #[.int .i64 0] 6) 3)) := hw.alloc hsz _
  have HB1 := Lib.hid hB1
  clear hB1 hw
  go_wp2
  clear hmk
  obtain ⟨g1, hg1⟩ : ∃ g, w1.heap.size = g := ⟨_, rfl⟩
  rw [hg1] at hsz HB1 ⊢
  clear hg1
  go_loopw [8, 9] (fun v i wr => ∃ t : Nat, t ≤ 6 ∧ i = .int .i64 t ∧ v = .int .i64 (spS ps t) ∧ Blk wr g1 3 (ints (ldTo (usL qs) (rssL qs) cs (ordL ps) t)) ∧ Below w.heap.size w wr) (fun _ i _ => 6 - (intOf i).toNat)
  case atStart => exact ⟨0, by omega, rfl, rfl, HB1.out, hbw⟩
  case round =>
    clear HB1 hbw
    obtain ⟨t, ht, rfl, rfl, hB, hw⟩ := hrel
    by_cases hlt : t < 6
    · have b6 : decide ((t : Int) < 6) = true := by simp; omega
      obtain ⟨b, p1, p2, p3, p4, _⟩ := sp_pick ps t hlt
      have hlst := ld_step (usL qs) (rssL qs) cs ps hlt p2
      have hsp := show spS ps (t + 1) = spS ps t ||| 2 ^ (bstTo ps (spS ps t) 6).toNat from rfl
      have s64 := spS_lt ps t (by omega)
      rw [p1, Int.toNat_natCast, or_add _ s64 b p3 p4] at hsp
      obtain ⟨s, hs⟩ : ∃ s, spS ps t = s := ⟨_, rfl⟩
      rw [hs] at p1 p4 hlst hsp s64 ⊢
      have P1 := Lib.hid p1
      have HLST := Lib.hid hlst
      have HSP := Lib.hid hsp
      have HB := Lib.hid hB
      have HW := Lib.hid hw
      clear p1 p2 p4 hlst hsp hs hB hw
      go_wp2
      go_loopw [10, 11] (fun v i wq => ∃ k : Nat, k ≤ 6 ∧ i = .int .i64 k ∧ v = .int .i64 (bstTo ps s k) ∧ Blk wq g1 3 (ints (ldTo (usL qs) (rssL qs) cs (ordL ps) t)) ∧ Below w.heap.size w wq) (fun _ i _ => 6 - (intOf i).toNat)
      case atStart => exact ⟨0, by omega, rfl, rfl, HB.out, HW.out⟩
      case round =>
        clear HB HW
        obtain ⟨k, hk, rfl, rfl, hB, hw⟩ := hrel
        by_cases hlk : k < 6
        · have hst := bst_step ps s k
          have hbc := bst_cases ps s k
          have hI := HQ0.out.below hw
          have hx := (hI.cellx k hlk).1
          have i1 : (0 : Int) ≤ (k : Int) := by omega
          have i2 : (k : Int) < (6 : Int) := by omega
          have an := test_shr s k
          obtain ⟨x, hxx⟩ : ∃ x, ps.getD k 0 = x := ⟨_, rfl⟩
          obtain ⟨B, hBB⟩ : ∃ B, bstTo ps s k = B := ⟨_, rfl⟩
          rw [hxx] at hx hst
          rw [hBB] at hst hbc ⊢
          have HB := Lib.hid hB
          have HW := Lib.hid hw
          have HI := Lib.hid hI
          have HBB := Lib.hid hBB
          clear hB hw hI hxx hBB
          cases hbit : s.testBit k
          · rw [hbit] at an hst
            obtain ⟨an1, an2, an3, an4⟩ := an
            have HST := Lib.hid hst
            clear hbit hst
            rcases hbc with rfl | ⟨y, rfl, hyk⟩
            · have t1 : decide ((-1 : Int) < 0) = true := by decide
              have e1 : Hid (bstTo ps s (k + 1) = k) := by show _ = _; rw [HST.out, if_pos ⟨rfl, .inl (by omega)⟩]
              clear HST
              go_upto_region 12 with fail
              go_quiet (fail)
              all_goals
                go_wp2_with fail
                go_roundw
                case rel => exact ⟨k + 1, hlk, by go_num, by rw [e1.out], HB.out.drewN _, bdN HW.out _⟩
                case measure => simp [intOf]; omega
            · have hz := (HI.out.cellx y (by omega)).1
              have t1 : decide ((y : Int) < 0) = false := by simp
              obtain ⟨z, hzz⟩ : ∃ z, ps.getD y 0 = z := ⟨_, rfl⟩
              rw [hzz] at hz
              have i3 : (0 : Int) ≤ (y : Int) := by omega
              have i4 : (y : Int) < (6 : Int) := by omega
              have e0 : Hid (bstTo ps s (k + 1) = if x < z then (k : Int) else y) := by
                show _ = _
                rw [HST.out, Int.toNat_natCast, hzz]
                by_cases g : x < z
                · rw [if_pos ⟨rfl, .inr g⟩, if_pos g]
                · rw [if_neg (fun q => q.2.elim (fun q => by omega) g), if_neg g]
              clear HST hzz
              by_cases hxz : x < z
              · have t2 : decide (x < z) = true := by simpa using hxz
                have e1 : Hid (bstTo ps s (k + 1) = k) := by show _ = _; rw [e0.out, if_pos hxz]
                clear e0 hxz
                go_upto_region 12 with fail
                go_quiet (fail)
                all_goals
                  go_wp2_with fail
                  go_roundw
                  case rel => exact ⟨k + 1, hlk, by go_num, by rw [e1.out], HB.out.drewN _, bdN HW.out _⟩
                  case measure => simp [intOf]; omega
              · have t2 : decide (x < z) = false := by simpa using hxz
                have e1 : Hid (bstTo ps s (k + 1) = y) := by show _ = _; rw [e0.out, if_neg hxz]
                clear e0 hxz
                go_upto_region 12 with fail
                go_quiet (fail)
                all_goals
                  go_wp2_with fail
                  go_roundw
                  case rel => exact ⟨k + 1, hlk, by go_num, by rw [e1.out], HB.out.drewN _, bdN HW.out _⟩
                  case measure => simp [intOf]; omega
          · rw [hbit] at an hst
            obtain ⟨an1, an2, an3, an4⟩ := an
            have e1 : Hid (bstTo ps s (k + 1) = B) := by show _ = _; rw [hst, if_neg (fun q => by cases q.1)]
            clear hbit hst hbc
            go_upto_region 12 with fail
            go_quiet (fail)
            all_goals
              go_wp2_with fail
              go_roundw
              case rel => exact ⟨k + 1, hlk, by go_num, by rw [e1.out], HB.out.drewN _, bdN HW.out _⟩
              case measure => simp [intOf]; omega
        · obtain rfl : k = 6 := by omega
          rw [P1.out]
          have hBk := Lib.hid (H0.out.below hw)
          have hCk := HC0.out.below hw
          have L41 := L4.out s wr hCk
          have MU1 := fun g c => MU.out g c s
          have fb := FB.out s
          obtain ⟨F, hF⟩ : ∃ F, fV (usL qs) (rssL qs) cs s = F := ⟨_, rfl⟩
          rw [hF] at MU1 fb
          have HF := Lib.hid hF
          have HB := Lib.hid hB
          have HW := Lib.hid hw
          clear hF hB hw hCk
          go_upto_region 15 with (first
            | (go_at_call 62; ((with_reducible refine L41.mono ?_); rintro e w2 ⟨g2, cg, rfl, hI2, hb2⟩; clear L41))
            | (go_at_call 61; ((with_reducible refine (MU1 _ _ _ (hBk.out.below hb2) hI2).mono ?_); rintro e w3 ⟨rfl, hb3⟩; clear MU1 hI2)))
          have HW3 := Lib.hid (bt (bt HW.out hb2) hb3)
          have HB3 := Lib.hid ((HB.out.below hb2 HB.out.lt).below hb3 (by have := HB.out.lt; have := hb2.size; omega))
          clear HW HB hb2 hb3 hBk
          rcases (by omega : b = 0 ∨ b = 1 ∨ b = 2 ∨ b = 3 ∨ b = 4 ∨ b = 5) with rfl | rfl | rfl | rfl | rfl | rfl
          all_goals
            go_upto_region 16 with fail
            obtain ⟨s', hs'⟩ : ∃ s', spS ps (t + 1) = s' := ⟨_, rfl⟩
            have he := HSP.out
            rw [hs'] at he
            first
              | rw [show (s : Int) + 1 = (s' : Int) by omega]
              | rw [show (s : Int) + 2 = (s' : Int) by omega]
              | rw [show (s : Int) + 4 = (s' : Int) by omega]
              | rw [show (s : Int) + 8 = (s' : Int) by omega]
              | rw [show (s : Int) + 16 = (s' : Int) by omega]
              | rw [show (s : Int) + 32 = (s' : Int) by omega]
            have HE := Lib.hid hs'
            have L42 := L4.out s' w3 (HC0.out.below HW3.out)
            have MU2 := fun g c => MU.out g c s'
            have fb' := FB.out s'
            have hls := HLST.out
            rw [hs', HF.out] at hls
            obtain ⟨F', hF'⟩ : ∃ F', fV (usL qs) (rssL qs) cs s' = F' := ⟨_, rfl⟩
            rw [hF'] at MU2 fb' hls
            have HLS := Lib.hid hls
            have hBk := Lib.hid (H0.out.below HW3.out)
            clear hF' hls he hs'
            go_upto_region 7 with (first
              | (go_at_call 62; ((with_reducible refine L42.mono ?_); rintro e w4 ⟨g3, cg', rfl, hI4, hb4⟩; clear L42))
              | (go_at_call 61; ((with_reducible refine (MU2 _ _ _ (hBk.out.below hb4) hI4).mono ?_); rintro e w5 ⟨rfl, hb5⟩; clear MU2 hI4; have hw5 := bt (bt HW3.out hb4) hb5; have hB5 := (HB3.out.below hb4 HB3.out.lt).below hb5 (by have := HB3.out.lt; have := hb4.size; omega); have f1 := hB5.frozen; have c1 := fun k hk => hB5.int_cell (k := k) hk; rw [ldTo_len] at c1; have c2 := c1 0 (by omega); have c3 := c1 1 (by omega); have c4 := c1 2 (by omega); have c5 := c1 3 (by omega); have c6 := c1 4 (by omega); have c7 := c1 5 (by omega); have HB5 := Lib.hid hB5; have HW5 := Lib.hid hw5; clear c1 hB5 hw5 hb4 hb5)))
            go_wp2
            go_roundw
            case rel => exact ⟨t + 1, hlt, by go_num, by rw [HE.out], by rw [HLS.out]; exact HB5.out.int_set _ _, HW5.out.setCell hsz _⟩
            case measure => simp [intOf]; omega
    · obtain rfl : t = 6 := by omega
      have HW := Lib.hid hw
      rw [← clL_eq] at hB
      have HB := Lib.hid hB
      have HL := Lib.hid (clL_len (usL qs) (rssL qs) cs ps)
      clear hw hB
      go_wp2
      go_ret
      exact ⟨some ⟨g1, 0, none⟩, 6, by rw [HL.out]; rfl, by rw [HL.out]; exact Ints.of_blk' HB.out HL.out, HW.out⟩
end Go.Proofs.YtoiaggjjfahabaaDoor
