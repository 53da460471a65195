/- The reference's PlanValid: what it computes. Conditions: the plan's numbers are small, at most 1000 rows. -/
import Derived.Test.YtoiaggjjfahabaaDoorChg11
namespace Go.Proofs.YtoiaggjjfahabaaDoor
open Go.RowKit
set_option linter.unusedVariables false
set_option maxRecDepth 100000 in
set_option maxHeartbeats 4000000 in
theorem PlanValid_s (A C Q : Option Addr) (n c1 m c2 np c3 : Nat) (qs : List Quad) (cs : List Int) (p : List (List Int)) (w : World) (h : Books w A n qs) (hC : Ints w C m cs) (hQ : Tabs w Q np p) (hn : n ≤ 1000) (hm : m ≤ 1048576) (hnp : np ≤ 1000) (hx : ∀ k, Sml (p.getD k [])) (hl : ∀ k, (p.getD k []).length ≤ 1000) (hsa : SmA qs) :
    Calls Tryd.prog 31 #[.slice A n c1, .slice C m c2, .slice Q np c3] w fun e w' => e = .returned (.bool (pvV qs cs p)) ∧ Below w.heap.size w w' := by
  have hlen := h.1
  have plen := hQ.1
  by_cases v1 : nsV qs = true
  · have C1 : ∀ w, Books w A n qs → Calls Tryd.prog 59 #[.slice A n c1] w fun e w' => e = .returned (.bool true) ∧ Below w.heap.size w w' := fun w h => by have := NeedsValid_s A n c1 qs w h (by omega) hsa; rw [v1] at this; exact this
    by_cases v2 : fvV cs = true
    · have C2 : ∀ w, Ints w C m cs → Calls Tryd.prog 60 #[.slice C m c2] w fun e w' => e = .returned (.bool true) ∧ Below w.heap.size w w' := fun w h => by have := FeedValid_s C m c2 cs w h hm; rw [v2] at this; exact this
      have hm6 : m = 6 := by rw [← hC.1]; exact (fv_at v2).1
      subst hm6
      by_cases v3 : np = n
      · subst v3
        have hyes : Hid ((∀ k, k < np → rowOk qs p k) → (∀ j, j < 6 → loadL p j np ≤ cs.getD j 0) → pvV qs cs p = true) := fun g1 g2 => by
          rw [pvV_yes, hlen]; exact ⟨v1, v2, plen, g1, g2⟩
        have hno : Hid (∀ k, k < np → ¬ rowOk qs p k → pvV qs cs p = false) := fun k hk g => pvV_row k (by omega) g
        have hno2 : Hid (∀ j, j < 6 → ¬ loadL p j np ≤ cs.getD j 0 → pvV qs cs p = false) := fun j hj g => pvV_load j hj (by rw [hlen]; exact g)
        have HB2 : Hid (∀ k, 0 ≤ cs.getD k 0 ∧ cs.getD k 0 ≤ 30) := (fv_at v2).2
        have HRB : Hid (∀ k j, 0 ≤ ((rssL qs).getD k []).getD j 0 ∧ ((rssL qs).getD k []).getD j 0 ≤ 30) := rs_bd v1
        have HUB : Hid (∀ k, 0 ≤ (usL qs).getD k 0 ∧ (usL qs).getD k 0 ≤ 30) := us_bd v1
        have HRS : Hid (∀ k j, k < np → j < 6 → ((rssL qs).getD k []).getD j 0 = rin (qs.getD k q0).a (qs.getD k q0).b (qs.getD k q0).c (qs.getD k q0).d (j : Int)) := fun k j hk hj => by rw [rssL_at (by omega), rsL_at _ hj]
        have HUS : Hid (∀ k, k < np → (usL qs).getD k 0 = (qs.getD k q0).d) := fun k hk => usL_at (by omega)
        have HX := Lib.hid hx
        obtain ⟨V, hV⟩ : ∃ V, pvV qs cs p = V := ⟨_, rfl⟩
        rw [hV] at hyes hno hno2 ⊢
        clear v1 v2 hV hx hlen plen
        go_enter Tryd.func31, Tryd.ntmps31
        go_wp2_with (first
          | (go_at_call 59; refine (C1 _ h).mono ?_; rintro e w1 ⟨rfl, hb1⟩; clear C1)
          | (go_at_call 60; refine (C2 _ (hC.below hb1)).mono ?_; rintro e w2 ⟨rfl, hb2⟩; replace hb1 := bt hb1 hb2; clear C2 hb2))
        go_loopw [7] (fun i wr => ∃ k : Nat, k ≤ np ∧ i = .int .i64 k ∧ (∀ k', k' < k → rowOk qs p k') ∧ Below w.heap.size w wr) (fun i _ => np - (intOf i).toNat)
        case atStart => exact ⟨0, by omega, rfl, fun k' hk' => absurd hk' (by omega), hb1⟩
        case round =>
          clear hb1
          obtain ⟨k, hk, rfl, hG, hb⟩ := hrel
          have HG := Lib.hid hG
          clear hG
          by_cases hlt : k < np
          · obtain ⟨pb, po, rfl, hpl, hpc⟩ := hQ.2 (by omega)
            obtain ⟨nb, no, rfl, hnl, hnc⟩ := h.2 (by omega)
            obtain ⟨Ak, ck, d1, d2, d3⟩ := hpc k hlt
            have q1 := (hb.cell (p := ⟨pb, po + k, none⟩) hpl).trans d1
            have lk := hl k
            have i1 : (0 : Int) ≤ (k : Int) := by omega
            have i2 : (k : Int) < (np : Int) := by omega
            by_cases h6 : (p.getD k []).length = 6
            · rw [h6] at q1 d1 d2 d3
              have s6 := HX.out k
              have hF : Hid (∀ j, j < 6 → ¬ (0 ≤ (p.getD k []).getD j 0 ∧ (p.getD k []).getD j 0 ≤ ((rssL qs).getD k []).getD j 0) → V = false) := fun j hj g => hno.out k hlt (fun g2 => g (g2.2.1 j hj))
              have hF2 : Hid (¬ sumL (p.getD k []) 6 ≤ (usL qs).getD k 0 → V = false) := fun g => hno.out k hlt (fun g2 => g g2.2.2)
              have hT : Hid ((∀ j, j < 6 → 0 ≤ (p.getD k []).getD j 0 ∧ (p.getD k []).getD j 0 ≤ ((rssL qs).getD k []).getD j 0) → sumL (p.getD k []) 6 ≤ (usL qs).getD k 0 → ∀ k', k' < k + 1 → rowOk qs p k') := fun g1 g2 k' hk' => by
                rcases Nat.lt_or_ge k' k with q | q
                · exact HG.out k' q
                · have : k' = k := by omega
                  subst this; exact ⟨h6, g1, g2⟩
              have HR := Lib.hid (fun j hj => HRS.out k j hlt hj)
              have HRk := Lib.hid (HRB.out k)
              have uk := HUB.out k
              have huk := HUS.out k hlt
              have bk := sumL_bd s6 6
              obtain ⟨rk, hrk⟩ : ∃ rk, (rssL qs).getD k [] = rk := ⟨_, rfl⟩
              rw [hrk] at hF hT HR HRk
              obtain ⟨row, hrow⟩ : ∃ row, p.getD k [] = row := ⟨_, rfl⟩
              rw [hrow] at hF hF2 hT d3 s6 bk
              have PU := PlanUnits_s Ak 6 ck row
              obtain ⟨rb, ro, rfl⟩ := d3.addr (by omega)
              obtain ⟨q, hq⟩ : ∃ q, qs.getD k q0 = q := ⟨_, rfl⟩
              rw [hq] at huk HR
              obtain ⟨r0, r1, r2, r3⟩ := hnc k hlt
              rw [hq] at r0 r1 r2 r3
              rw [huk] at uk hF2 hT
              have HS6 := Lib.hid s6
              have hqa : -1000000 ≤ q.a ∧ q.a ≤ 1000000 := by have := hsa k; rw [hq] at this; exact this
              clear h6 hrk hrow hq huk hpc hnc d2 s6
              go_wp2
              go_loopw [8] (fun i wx => ∃ j : Nat, j ≤ 6 ∧ i = .int .i64 j ∧ (∀ j', j' < j → 0 ≤ row.getD j' 0 ∧ row.getD j' 0 ≤ rk.getD j' 0) ∧ Below w.heap.size w wx) (fun i _ => 6 - (intOf i).toNat)
              case atStart => exact ⟨0, by omega, rfl, fun j' hj' => absurd hj' (by omega), hb⟩
              case round =>
                clear hb q1
                obtain ⟨j, hj, rfl, hG, hb⟩ := hrel
                have q1 := (hb.cell (p := ⟨pb, po + k, none⟩) hpl).trans d1
                have HG2 := Lib.hid hG
                clear hG
                have e0 := (hb.cell (p := ⟨nb, no + k * 4, none⟩) hnl).trans r0
                have e1 := (hb.cell (p := ⟨nb, no + k * 4 + 1, none⟩) hnl).trans r1
                have e2 := (hb.cell (p := ⟨nb, no + k * 4 + 2, none⟩) hnl).trans r2
                have e3 := (hb.cell (p := ⟨nb, no + k * 4 + 3, none⟩) hnl).trans r3
                by_cases hlt2 : j < 6
                · have q2 := ((d3.below hb).cellx j hlt2).1
                  have hFj := hF.out j hlt2
                  have rj := HRk.out j
                  have rE := HR.out j hlt2
                  have sj := HS6.out j
                  have i3 : (0 : Int) ≤ (j : Int) := by omega
                  have i4 : (j : Int) < (6 : Int) := by omega
                  have RI := fun w => RateIn_s q.a q.b q.c q.d (j : Int) w hqa
                  rw [← rE] at RI
                  have hT2 : Hid ((0 ≤ row.getD j 0 ∧ row.getD j 0 ≤ rk.getD j 0) → ∀ j', j' < j + 1 → 0 ≤ row.getD j' 0 ∧ row.getD j' 0 ≤ rk.getD j' 0) := fun g j' hj' => by
                    rcases Nat.lt_or_ge j' j with t | t
                    · exact HG2.out j' t
                    · have : j' = j := by omega
                      subst this; exact g
                  clear rE
                  obtain ⟨z, hz⟩ : ∃ z, row.getD j 0 = z := ⟨_, rfl⟩
                  obtain ⟨y, hy⟩ : ∃ y, rk.getD j 0 = y := ⟨_, rfl⟩
                  rw [hz] at q2 hFj sj hT2
                  rw [hy] at hFj rj RI hT2
                  have HFj := Lib.hid hFj
                  clear hz hy hFj
                  have hin : inR z 0 y = decide (0 ≤ z ∧ z ≤ y) := rfl
                  by_cases zz : 0 ≤ z ∧ z ≤ y
                  · have t0 : inR z 0 y = true := inR_yes zz
                    have hT4 := Lib.hid (hT2.out zz)
                    clear hT2 HFj hin
                    go_upto_region 11 with fail
                    generalize wr = W at *
                    have HD := Lib.hid (d3.below hb)
                    have hrl := ((d3.below hb).cellx j hlt2).2
                    have HW := Lib.hid hb
                    have hsz := hb.size
                    have hnl2 := Nat.lt_of_lt_of_le hnl hsz
                    have hpl2 := Nat.lt_of_lt_of_le hpl hsz
                    clear hb
                    go_region_held3 (fun w' => Below (W.heap.size) (W) w' ∧ ∀ k o, k < W.heap.size → w'.cell? ⟨k, o, none⟩ = World.cell? (W) ⟨k, o, none⟩) (first | assumption | exact kp_start | (refine kp_step ?_ hb ?_; assumption; (first | omega | (simp; done) | (simp; omega))) | (refine kp_drew ?_; assumption) | (refine kp_drew (kp_of hb ?_); (first | omega | (simp; done) | (simp; omega)))) (first | (go_at_call 67; (with_reducible refine (RI _).mono ?_); rintro e w' ⟨rfl, hb⟩) | (go_at_call 44; (with_reducible refine (l1In_any _ _ _ _).mono ?_); rintro e w'' ⟨rfl, rfl⟩))
                    all_goals
                      go_wp2_with fail
                      go_roundw
                      case rel => exact ⟨j + 1, hlt2, by go_num, hT4.out, bt HW.out (by (refine kp_end (by assumption) ?_ (by first | omega | (simp; done) | (simp; omega)); (repeat (first | exact Below.refl _ _ | assumption | refine Below.alloc ?_ (by first | omega | (simp; done) | (simp; omega)) _ | refine Below.drew ?_ | refine bdN ?_ _ | refine Below.setCell ?_ (by first | omega | (simp; done) | (simp; omega)) _))))⟩
                      case measure => simp [intOf]; omega
                  · have t0 : inR z 0 y = false := inR_no zz
                    have hV0 := Lib.hid (HFj.out zz)
                    clear hT2 HFj hin
                    go_upto_region 11 with fail
                    generalize wr = W at *
                    have HD := Lib.hid (d3.below hb)
                    have hrl := ((d3.below hb).cellx j hlt2).2
                    have HW := Lib.hid hb
                    have hsz := hb.size
                    have hnl2 := Nat.lt_of_lt_of_le hnl hsz
                    have hpl2 := Nat.lt_of_lt_of_le hpl hsz
                    clear hb
                    go_region_held3 (fun w' => Below (W.heap.size) (W) w' ∧ ∀ k o, k < W.heap.size → w'.cell? ⟨k, o, none⟩ = World.cell? (W) ⟨k, o, none⟩) (first | assumption | exact kp_start | (refine kp_step ?_ hb ?_; assumption; (first | omega | (simp; done) | (simp; omega))) | (refine kp_drew ?_; assumption) | (refine kp_drew (kp_of hb ?_); (first | omega | (simp; done) | (simp; omega)))) (first | (go_at_call 67; (with_reducible refine (RI _).mono ?_); rintro e w' ⟨rfl, hb⟩) | (go_at_call 44; (with_reducible refine (l1In_any _ _ _ _).mono ?_); rintro e w'' ⟨rfl, rfl⟩))
                    all_goals
                      go_wp2_with fail
                      go_ret
                      exact ⟨ret_bool (by rw [hV0.out]), bt HW.out (by (refine kp_end (by assumption) ?_ (by first | omega | (simp; done) | (simp; omega)); (repeat (first | exact Below.refl _ _ | assumption | refine Below.alloc ?_ (by first | omega | (simp; done) | (simp; omega)) _ | refine Below.drew ?_ | refine bdN ?_ _ | refine Below.setCell ?_ (by first | omega | (simp; done) | (simp; omega)) _))))⟩
                · obtain rfl : j = 6 := by omega
                  have PU2 := fun w hh => PU w hh (by omega) HS6.out
                  obtain ⟨X, hX⟩ : ∃ X, sumL row 6 = X := ⟨_, rfl⟩
                  rw [hX] at PU2 hF2 hT bk
                  obtain ⟨D, hD⟩ : ∃ D, q.d = D := ⟨_, rfl⟩
                  rw [hD] at e3 hF2 hT uk
                  have hT3 := hT.out HG2.out
                  have HT3 := Lib.hid hT3
                  clear hX hD r0 r1 r2 r3 e0 e1 e2 HR HRk hT3
                  by_cases hs : D < X
                  · have t0 : decide (D < X) = true := by simpa using hs
                    go_upto_region 13 with fail
                    generalize wr = W at *
                    have HD := Lib.hid (d3.below hb)
                    have HW := Lib.hid hb
                    have hsz := hb.size
                    have hnl2 := Nat.lt_of_lt_of_le hnl hsz
                    have hpl2 := Nat.lt_of_lt_of_le hpl hsz
                    clear hb
                    go_region_held3 (fun w' => Below (W.heap.size) (W) w' ∧ ∀ k o, k < W.heap.size → w'.cell? ⟨k, o, none⟩ = World.cell? (W) ⟨k, o, none⟩) (first | assumption | exact kp_start | (refine kp_step ?_ hb ?_; assumption; (first | omega | (simp; done) | (simp; omega))) | (refine kp_drew ?_; assumption) | (refine kp_drew (kp_of hb ?_); (first | omega | (simp; done) | (simp; omega)))) (first | (go_at_call 68; (with_reducible refine (PU2 _ (HD.out.below (by (refine kp_end (by assumption) ?_ (by first | omega | (simp; done) | (simp; omega)); (repeat (first | exact Below.refl _ _ | assumption | refine Below.alloc ?_ (by first | omega | (simp; done) | (simp; omega)) _ | refine Below.drew ?_ | refine bdN ?_ _ | refine Below.setCell ?_ (by first | omega | (simp; done) | (simp; omega)) _)))))).mono ?_); rintro e w' ⟨rfl, hb⟩))
                    all_goals
                      go_wp2_with fail
                      go_ret
                      exact ⟨ret_bool (by rw [hF2.out (by omega)]), bt HW.out (by (refine kp_end (by assumption) ?_ (by first | omega | (simp; done) | (simp; omega)); (repeat (first | exact Below.refl _ _ | assumption | refine Below.alloc ?_ (by first | omega | (simp; done) | (simp; omega)) _ | refine Below.drew ?_ | refine bdN ?_ _ | refine Below.setCell ?_ (by first | omega | (simp; done) | (simp; omega)) _))))⟩
                  · have t0 : decide (D < X) = false := by simpa using hs
                    go_upto_region 13 with fail
                    generalize wr = W at *
                    have HD := Lib.hid (d3.below hb)
                    have HW := Lib.hid hb
                    have hsz := hb.size
                    have hnl2 := Nat.lt_of_lt_of_le hnl hsz
                    have hpl2 := Nat.lt_of_lt_of_le hpl hsz
                    clear hb
                    go_region_held3 (fun w' => Below (W.heap.size) (W) w' ∧ ∀ k o, k < W.heap.size → w'.cell? ⟨k, o, none⟩ = World.cell? (W) ⟨k, o, none⟩) (first | assumption | exact kp_start | (refine kp_step ?_ hb ?_; assumption; (first | omega | (simp; done) | (simp; omega))) | (refine kp_drew ?_; assumption) | (refine kp_drew (kp_of hb ?_); (first | omega | (simp; done) | (simp; omega)))) (first | (go_at_call 68; (with_reducible refine (PU2 _ (HD.out.below (by (refine kp_end (by assumption) ?_ (by first | omega | (simp; done) | (simp; omega)); (repeat (first | exact Below.refl _ _ | assumption | refine Below.alloc ?_ (by first | omega | (simp; done) | (simp; omega)) _ | refine Below.drew ?_ | refine bdN ?_ _ | refine Below.setCell ?_ (by first | omega | (simp; done) | (simp; omega)) _)))))).mono ?_); rintro e w' ⟨rfl, hb⟩))
                    all_goals
                      go_wp2_with fail
                      go_roundw
                      case rel => exact ⟨k + 1, hlt, by go_num, HT3.out (by omega), bt HW.out (by (refine kp_end (by assumption) ?_ (by first | omega | (simp; done) | (simp; omega)); (repeat (first | exact Below.refl _ _ | assumption | refine Below.alloc ?_ (by first | omega | (simp; done) | (simp; omega)) _ | refine Below.drew ?_ | refine bdN ?_ _ | refine Below.setCell ?_ (by first | omega | (simp; done) | (simp; omega)) _))))⟩
                      case measure => simp [intOf]; omega
            · have hv := hno.out k hlt (fun g => h6 g.1)
              obtain ⟨ℓ, hℓ⟩ : ∃ ℓ, (p.getD k []).length = ℓ := ⟨_, rfl⟩
              rw [hℓ] at q1 lk h6
              have t6 : ((ℓ : Int) == 6) = false := by simp; omega
              have t6' : ((ℓ : Int) != 6) = true := by simp; omega
              have HV := Lib.hid hv
              clear h6 hpc hnc d1 d2 d3 hℓ hv
              go_wp2
              go_ret
              exact ⟨ret_bool (by rw [HV.out]), hb⟩
          · obtain rfl : k = np := by omega
            have hP := fun (j : Nat) (hj6 : j < 6) w hT => PlanLoad_s Q k c3 p j w hT (by omega) HX.out (fun i hi => (HG.out i hi).1) hj6
            obtain ⟨cb, co, rfl⟩ := hC.addr (by omega)
            go_wp2
            go_loopw [9] (fun i wx => ∃ j : Nat, j ≤ 6 ∧ i = .int .i64 j ∧ (∀ j', j' < j → loadL p j' k ≤ cs.getD j' 0) ∧ Below w.heap.size w wx) (fun i _ => 6 - (intOf i).toNat)
            case atStart => exact ⟨0, by omega, rfl, fun j' hj' => absurd hj' (by omega), hb⟩
            case round =>
              clear hb
              obtain ⟨j, hj, rfl, hG, hb⟩ := hrel
              have HG2 := Lib.hid hG
              clear hG
              by_cases hlt2 : j < 6
              · have q2 := ((hC.below hb).cellx j hlt2).1
                have hFj := hno2.out j hlt2
                have P0 := hP j hlt2
                have i3 : (0 : Int) ≤ (j : Int) := by omega
                have i4 : (j : Int) < (6 : Int) := by omega
                have hT2 : Hid (loadL p j k ≤ cs.getD j 0 → ∀ j', j' < j + 1 → loadL p j' k ≤ cs.getD j' 0) := fun g j' hj' => by
                  rcases Nat.lt_or_ge j' j with t | t
                  · exact HG2.out j' t
                  · have : j' = j := by omega
                    subst this; exact g
                obtain ⟨z, hz⟩ : ∃ z, cs.getD j 0 = z := ⟨_, rfl⟩
                obtain ⟨y, hy⟩ : ∃ y, loadL p j k = y := ⟨_, rfl⟩
                rw [hz] at q2 hFj hT2
                rw [hy] at hFj P0 hT2
                have HFj := Lib.hid hFj
                clear hz hy hFj hP
                by_cases zy : z < y
                · have t1 : decide (z < y) = true := by simpa using zy
                  go_upto_region 18 with fail
                  generalize wr = W at *
                  have HD := Lib.hid (hQ.below hb)
                  have HW := Lib.hid hb
                  have hsz := hb.size
                  have hcl := ((hC.below hb).cellx j hlt2).2
                  clear hb
                  go_region_held3 (fun w' => Below (W.heap.size) (W) w' ∧ ∀ k o, k < W.heap.size → w'.cell? ⟨k, o, none⟩ = World.cell? (W) ⟨k, o, none⟩) (first | assumption | exact kp_start | (refine kp_step ?_ hb ?_; assumption; (first | omega | (simp; done) | (simp; omega))) | (refine kp_drew ?_; assumption) | (refine kp_drew (kp_of hb ?_); (first | omega | (simp; done) | (simp; omega)))) (first | (go_at_call 69; (with_reducible refine (P0 _ (HD.out.below (by (refine kp_end (by assumption) ?_ (by first | omega | (simp; done) | (simp; omega)); (repeat (first | exact Below.refl _ _ | assumption | refine Below.alloc ?_ (by first | omega | (simp; done) | (simp; omega)) _ | refine Below.drew ?_ | refine bdN ?_ _ | refine Below.setCell ?_ (by first | omega | (simp; done) | (simp; omega)) _)))))).mono ?_); rintro e w' ⟨rfl, hb⟩))
                  all_goals
                    go_wp2_with fail
                    go_ret
                    exact ⟨ret_bool (by rw [HFj.out (by omega)]), bt HW.out (by (refine kp_end (by assumption) ?_ (by first | omega | (simp; done) | (simp; omega)); (repeat (first | exact Below.refl _ _ | assumption | refine Below.alloc ?_ (by first | omega | (simp; done) | (simp; omega)) _ | refine Below.drew ?_ | refine bdN ?_ _ | refine Below.setCell ?_ (by first | omega | (simp; done) | (simp; omega)) _))))⟩
                · have t1 : decide (z < y) = false := by simpa using zy
                  go_upto_region 18 with fail
                  generalize wr = W at *
                  have HD := Lib.hid (hQ.below hb)
                  have HW := Lib.hid hb
                  have hsz := hb.size
                  have hcl := ((hC.below hb).cellx j hlt2).2
                  clear hb
                  go_region_held3 (fun w' => Below (W.heap.size) (W) w' ∧ ∀ k o, k < W.heap.size → w'.cell? ⟨k, o, none⟩ = World.cell? (W) ⟨k, o, none⟩) (first | assumption | exact kp_start | (refine kp_step ?_ hb ?_; assumption; (first | omega | (simp; done) | (simp; omega))) | (refine kp_drew ?_; assumption) | (refine kp_drew (kp_of hb ?_); (first | omega | (simp; done) | (simp; omega)))) (first | (go_at_call 69; (with_reducible refine (P0 _ (HD.out.below (by (refine kp_end (by assumption) ?_ (by first | omega | (simp; done) | (simp; omega)); (repeat (first | exact Below.refl _ _ | assumption | refine Below.alloc ?_ (by first | omega | (simp; done) | (simp; omega)) _ | refine Below.drew ?_ | refine bdN ?_ _ | refine Below.setCell ?_ (by first | omega | (simp; done) | (simp; omega)) _)))))).mono ?_); rintro e w' ⟨rfl, hb⟩))
                  all_goals
                    go_wp2_with fail
                    go_roundw
                    case rel => exact ⟨j + 1, hlt2, by go_num, hT2.out (by omega), bt HW.out (by (refine kp_end (by assumption) ?_ (by first | omega | (simp; done) | (simp; omega)); (repeat (first | exact Below.refl _ _ | assumption | refine Below.alloc ?_ (by first | omega | (simp; done) | (simp; omega)) _ | refine Below.drew ?_ | refine bdN ?_ _ | refine Below.setCell ?_ (by first | omega | (simp; done) | (simp; omega)) _))))⟩
                    case measure => simp [intOf]; omega
              · obtain rfl : j = 6 := by omega
                go_wp2
                go_ret
                exact ⟨ret_bool (by rw [hyes.out HG.out HG2.out]), hb⟩
      · have hv : Hid (pvV qs cs p = false) := by show _ = _; unfold pvV; rw [decide_eq_false_iff_not]; rintro ⟨_, _, g, _⟩; omega
        have t3 : ((np : Int) == (n : Int)) = false := by simp; omega
        clear v1 v2 hlen plen
        go_enter Tryd.func31, Tryd.ntmps31
        go_wp2_with (first
          | (go_at_call 59; refine (C1 _ h).mono ?_; rintro e w1 ⟨rfl, hb1⟩; clear C1)
          | (go_at_call 60; refine (C2 _ (hC.below hb1)).mono ?_; rintro e w2 ⟨rfl, hb2⟩; replace hb1 := bt hb1 hb2; clear C2 hb2))
        go_ret
        exact ⟨ret_bool (by rw [hv.out]), hb1⟩
    · have v2' : fvV cs = false := by simpa using v2
      have C2 : ∀ w, Ints w C m cs → Calls Tryd.prog 60 #[.slice C m c2] w fun e w' => e = .returned (.bool false) ∧ Below w.heap.size w w' := fun w h => by have := FeedValid_s C m c2 cs w h hm; rw [v2'] at this; exact this
      have hv : Hid (pvV qs cs p = false) := by show _ = _; unfold pvV; rw [decide_eq_false_iff_not]; rintro ⟨_, g, _⟩; exact v2 g
      clear v1 v2 v2' hlen plen
      go_enter Tryd.func31, Tryd.ntmps31
      go_wp2_with (first
        | (go_at_call 59; refine (C1 _ h).mono ?_; rintro e w1 ⟨rfl, hb1⟩; clear C1)
        | (go_at_call 60; refine (C2 _ (hC.below hb1)).mono ?_; rintro e w2 ⟨rfl, hb2⟩; replace hb1 := bt hb1 hb2; clear C2 hb2))
      go_ret
      exact ⟨ret_bool (by rw [hv.out]), hb1⟩
  · have v1' : nsV qs = false := by simpa using v1
    have C1 : ∀ w, Books w A n qs → Calls Tryd.prog 59 #[.slice A n c1] w fun e w' => e = .returned (.bool false) ∧ Below w.heap.size w w' := fun w h => by have := NeedsValid_s A n c1 qs w h (by omega) hsa; rw [v1'] at this; exact this
    have hv : Hid (pvV qs cs p = false) := by show _ = _; unfold pvV; rw [decide_eq_false_iff_not]; rintro ⟨g, _⟩; exact v1 g
    clear v1 v1' hlen plen
    go_enter Tryd.func31, Tryd.ntmps31
    go_wp2_with (go_at_call 59; refine (C1 _ h).mono ?_; rintro e w1 ⟨rfl, hb1⟩; clear C1)
    go_ret
    exact ⟨ret_bool (by rw [hv.out]), hb1⟩
end Go.Proofs.YtoiaggjjfahabaaDoor
