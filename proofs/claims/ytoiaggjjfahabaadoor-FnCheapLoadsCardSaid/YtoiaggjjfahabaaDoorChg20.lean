/- CheapLoads of the program: what it computes. Condition: short lists. -/
import Derived.Test.YtoiaggjjfahabaaDoorChg5
import Derived.Test.YtoiaggjjfahabaaDoorPDone
import Derived.Test.YtoiaggjjfahabaaDoorNews
namespace Go.Proofs.YtoiaggjjfahabaaDoor
open Go.RowKit
set_option linter.unusedVariables false
/-- CheapLoads -/
def clO (qs : List Quad) (cs ps : List Int) : List Int := if nsV qs = true ∧ fvV cs = true ∧ fvV ps = true then clL (usL qs) (rssL qs) cs ps else []
theorem clO_yes {qs : List Quad} {cs ps : List Int} (h1 : nsV qs = true) (h2 : fvV cs = true) (h3 : fvV ps = true) : clO qs cs ps = clL (usL qs) (rssL qs) cs ps := by unfold clO; rw [if_pos ⟨h1, h2, h3⟩]
theorem clO_no {qs : List Quad} {cs ps : List Int} (h : ¬ (nsV qs = true ∧ fvV cs = true ∧ fvV ps = true)) : clO qs cs ps = [] := by unfold clO; rw [if_neg h]
theorem clL_len (us : List Int) (rss : List (List Int)) (cs ps : List Int) : (clL us rss cs ps).length = 6 := clS_len us rss cs ps 63
theorem nn_us {qs : List Quad} (h : nsV qs = true) : NN (usL qs) := fun k => (us_bd h k).1
theorem nn_rs {qs : List Quad} (h : nsV qs = true) (k : Nat) : NN ((rssL qs).getD k []) := fun j => (rs_bd h k j).1
theorem nn_cs {cs : List Int} (h : fvV cs = true) : NN cs := fun k => ((fv_at h).2 k).1
theorem fv_rstr {cs : List Int} (h : fvV cs = true) (s : Nat) : fvV (rstr cs s) = true := by
  unfold fvV
  rw [decide_eq_true_iff]
  refine ⟨rstr_len cs s, fun k _ => ?_⟩
  rw [rstr_at]
  have := (fv_at h).2 k
  split <;> omega
theorem cl_zero (us : List Int) (rss : List (List Int)) (cs ps : List Int) : clS us rss cs ps 0 = List.replicate 6 0 := by
  unfold clS
  simp only [Nat.zero_testBit, Bool.false_eq_true, if_false]
  rfl
theorem rstr_zero (cs : List Int) : rstr cs 0 = List.replicate 6 0 := by
  unfold rstr
  simp only [Nat.zero_testBit, Bool.false_eq_true, if_false]
  rfl
/-- a result []int that reads as xs; of no element: nil -/
def CLr (w : World) (xs : List Int) (e : Ending) (w' : World) : Prop :=
  ∃ A c, e = .returned (.slice A xs.length c) ∧ Ints w' A xs.length xs ∧ (xs.length = 0 → A = none ∧ c = 0) ∧ Below w.heap.size w w'
/-- the loads and the feed of the hours so far -/
structure CM (w0 w : World) (g1 g2 : Nat) (qs : List Quad) (cs ps : List Int) (s : Nat) : Prop where
  ld : Blk w g1 3 (ints (clS (usL qs) (rssL qs) cs ps s))
  sm : Blk w g2 3 (ints (rstr cs s))
  bw : Below w0.heap.size w0 w
theorem CM.below {w0 w w' : World} {g1 g2 : Nat} {qs : List Quad} {cs ps : List Int} {s : Nat} (h : CM w0 w g1 g2 qs cs ps s) (hb : Below w.heap.size w w') : CM w0 w' g1 g2 qs cs ps s :=
  ⟨h.ld.below hb h.ld.lt, h.sm.below hb h.sm.lt, bt h.bw hb⟩
set_option maxRecDepth 100000 in
set_option maxHeartbeats 4000000 in
theorem CheapLoads_i_yes (A C Q : Option Addr) (n c1 c2 c3 : Nat) (qs : List Quad) (cs ps : List Int) (w : World) (h : Books w A n qs) (hC : Ints w C 6 cs) (hQ : Ints w Q 6 ps) (hn : n ≤ 1048576) (hv1 : nsV qs = true) (hv2 : fvV cs = true) (hv3 : fvV ps = true) :
    Calls Tryd.prog 24 #[.slice A n c1, .slice C 6 c2, .slice Q 6 c3] w (CLr w (clL (usL qs) (rssL qs) cs ps)) := by
  have K1 : ∀ w, Books w A n qs → Calls Tryd.prog 57 #[.slice A n c1] w fun e w' => e = .returned (.bool true) ∧ Below w.heap.size w w' := fun w h => by have := NeedsValid_i A n c1 qs w h hn; rw [hv1] at this; exact this
  have K2 : ∀ w, Ints w C 6 cs → Calls Tryd.prog 58 #[.slice C 6 c2] w fun e w' => e = .returned (.bool true) ∧ Below w.heap.size w w' := fun w h => by have := FeedValid_i C 6 c2 cs w h (by omega); rw [hv2] at this; exact this
  have K3 : ∀ w, Ints w Q 6 ps → Calls Tryd.prog 58 #[.slice Q 6 c3] w fun e w' => e = .returned (.bool true) ∧ Below w.heap.size w w' := fun w h => by have := FeedValid_i Q 6 c3 ps w h (by omega); rw [hv3] at this; exact this
  have hmk := run_make_row' (P := Tryd.prog) 28 3 (.int .i64 0) 8 Tryd.underlying28 infoIn rfl .i64 .i64 6 (by omega) (by omega)
  rw [show ((6 : Nat) : Int) = 6 from rfl] at hmk
  have hu := nn_us hv1
  have hr := nn_rs hv1
  have hc := nn_cs hv2
  have pb := (fv_at hv3).2
  have s0 := dnS_start (ps := ps) (fun k => (pb k).1)
  have s63 := dnS_end (ps := ps) (fun k => (pb k).2)
  have f0 := fV_zero (us := usL qs) (rss := rssL qs) (cs := cs) hu hr hc
  have MU0 : (∀ (g2 : Nat) (s : Nat) (w : World), Books w A n qs → Ints w (some ⟨g2, 0, none⟩) 6 (rstr cs s) → Calls Tryd.prog 26 #[.slice A n c1, .slice (some ⟨g2, 0, none⟩) 6 6] w fun e w' => e = .returned (.int .i64 (fV (usL qs) (rssL qs) cs s)) ∧ Below w.heap.size w w') := fun g2 s w h h' => by
    have := MostUnits_i A (some ⟨g2, 0, none⟩) n c1 6 6 qs (rstr cs s) w h h' hn (by omega)
    rw [(muV_nn hv1 (fv_rstr hv2 s)).1] at this; exact this
  have FB0 : (∀ s : Nat, 0 ≤ fV (usL qs) (rssL qs) cs s ∧ fV (usL qs) (rssL qs) cs s ≤ 106000) := fun s => (muV_nn hv1 (fv_rstr hv2 s)).2
  have MU := Lib.hid MU0
  have FB := Lib.hid FB0
  have S0 := Lib.hid s0
  have S63 := Lib.hid s63
  have F0 := Lib.hid f0
  have HCL := Lib.hid hC.1
  have HQL := Lib.hid hQ.1
  have PB := Lib.hid pb
  have H0 := Lib.hid h
  have HC0 := Lib.hid hC
  have HQ0 := Lib.hid hQ
  clear hv1 hv2 hv3 hu hr hc pb s0 s63 f0 MU0 FB0
  obtain ⟨cb, co, rfl⟩ := hC.addr (by omega)
  obtain ⟨qb, qo, rfl⟩ := hQ.addr (by omega)
  have hcl := (hC.cellx 0 (by omega)).2
  have hql := (hQ.cellx 0 (by omega)).2
  go_enter Tryd.func24, Tryd.ntmps24
  go_upto_region 3 with (first
    | (go_at_call 57; ((with_reducible refine (K1 _ h).mono ?_); rintro e w1 ⟨rfl, hb⟩; replace h := h.below hb; replace hC := hC.below hb; replace hQ := hQ.below hb; have hw := hb; clear hb K1))
    | (go_at_call 58; ((with_reducible refine (K2 _ hC).mono ?_); rintro e w1 ⟨rfl, hb⟩; replace h := h.below hb; replace hC := hC.below hb; replace hQ := hQ.below hb; replace hw := bt hw hb; clear hb K2))
    | (go_at_call 58; ((with_reducible refine (K3 _ hQ).mono ?_); rintro e w1 ⟨rfl, hb⟩; replace h := h.below hb; replace hC := hC.below hb; replace hQ := hQ.below hb; replace hw := bt hw hb; clear hb K3)))
  clear h hC hQ
  have hsz := hw.size
  have hB1 : Blk (w1.alloc (.cells (madeCells #[.int .i64 0] 6) 3)) w1.heap.size 3 (ints (clS (usL qs) (rssL qs) cs ps 0)) := by rw [cl_zero, ← ints_made]; exact Blk.new _ _ _
  have hB2 : Blk ((w1.alloc (.cells (madeCells #[.int .i64 0] 6) 3)).alloc (.cells (madeCells #[.int .i64 0] 6) 3)) (w1.heap.size + 1) 3 (ints (rstr cs 0)) := by
    rw [rstr_zero, ← ints_made]
    have := Blk.new (w1.alloc (.cells (madeCells #[.int .i64 0] 6) 3)) 3 (madeCells #[.int .i64 0] 6)
    simpa using this
  have hCM : CM w ((w1.alloc (.cells (madeCells #[.int .i64 0] 6) 3)).alloc (.cells (madeCells #[.int .i64 0] 6) 3)) w1.heap.size (w1.heap.size + 1) qs cs ps (dnS ps 0 0) := by rw [S0.out]; exact ⟨hB1.alloc _, hB2, (hw.alloc hsz _).alloc (by simp; omega) _⟩
  have HCM := Lib.hid hCM
  clear hB1 hB2 hCM hw
  go_wp2
  clear hmk
  obtain ⟨g1, hg1⟩ : ∃ g, w1.heap.size = g := ⟨_, rfl⟩
  obtain ⟨g2, hg2⟩ : ∃ g, g1 + 1 = g := ⟨_, rfl⟩
  rw [hg1] at hsz
  rw [hg1, hg2] at HCM ⊢
  have hgg : g1 < g2 := by omega
  have hg2w : w.heap.size ≤ g2 := by omega
  clear hg1 hg2
  have e0 : Hid ((0 : Int) = fV (usL qs) (rssL qs) cs (dnS ps ((0 : Nat) : Int) 0)) := by show _ = _; rw [show (((0 : Nat) : Int)) = 0 from rfl, S0.out, F0.out]
  go_loopw [9, 10] (fun v i wr => ∃ p : Nat, p ≤ 31 ∧ i = .int .i64 p ∧ v = .int .i64 (fV (usL qs) (rssL qs) cs (dnS ps p 0)) ∧ CM w wr g1 g2 qs cs ps (dnS ps p 0)) (fun _ i _ => 31 - (intOf i).toNat)
  case atStart => exact ⟨0, by omega, rfl, congrArg _ e0.out, by rw [show (((0 : Nat)) : Int) = 0 from rfl]; exact HCM.out⟩
  case round =>
    clear HCM e0
    obtain ⟨p, hp, rfl, rfl, hM⟩ := hrel
    by_cases hlp : p ≤ 30
    · have b30 : decide ((p : Int) ≤ 30) = true := by simp; omega
      go_wp2
      go_loopw [9, 34] (fun v i wr => ∃ k : Nat, k ≤ 6 ∧ i = .int .i64 k ∧ v = .int .i64 (fV (usL qs) (rssL qs) cs (dnS ps p k)) ∧ CM w wr g1 g2 qs cs ps (dnS ps p k)) (fun _ i _ => 6 - (intOf i).toNat)
      case atStart => exact ⟨0, by omega, rfl, rfl, hM⟩
      case round =>
        clear hM
        obtain ⟨k, hk, rfl, rfl, hM⟩ := hrel
        by_cases hlk : k < 6
        · have hx := ((HQ0.out.below hM.bw).cellx k hlk).1
          have hy := ((HC0.out.below hM.bw).cellx k hlk).1
          have ho := fun e => dnS_other (ps := ps) (p := (p : Int)) (h := k) e
          have ht := fun e => dnS_this (ps := ps) (p := (p : Int)) (h := k) hlk e
          have hn2 := fun e => cl_next (us := usL qs) (rss := rssL qs) (cs := cs) (ps := ps) (p := (p : Int)) (h := k) hlk e
          have hrs := rstr_set cs (dnS ps p k) k
          have i1 : (0 : Int) ≤ (k : Int) := by omega
          have i2 : (k : Int) < (6 : Int) := by omega
          obtain ⟨s, hs⟩ : ∃ s, dnS ps p k = s := ⟨_, rfl⟩
          obtain ⟨s', hs'⟩ : ∃ s', dnS ps p (k + 1) = s' := ⟨_, rfl⟩
          obtain ⟨x, hxx⟩ : ∃ x, ps.getD k 0 = x := ⟨_, rfl⟩
          obtain ⟨y, hyy⟩ : ∃ y, cs.getD k 0 = y := ⟨_, rfl⟩
          have HS' := Lib.hid hs'
          rw [hxx] at hx ho ht hn2
          rw [hyy] at hy hrs
          rw [hs, hs'] at ho ht hn2
          rw [hs] at hM hrs ⊢
          have fb := FB.out s
          have fb' := FB.out s'
          have MU1 := MU.out g2 s'
          obtain ⟨F, hF⟩ : ∃ F, fV (usL qs) (rssL qs) cs s = F := ⟨_, rfl⟩
          obtain ⟨F', hF'⟩ : ∃ F', fV (usL qs) (rssL qs) cs s' = F' := ⟨_, rfl⟩
          rw [hF] at fb hn2 ⊢
          rw [hF'] at fb' hn2 MU1
          have HF' := Lib.hid hF'
          have HF := Lib.hid hF
          have HO := Lib.hid ho
          have HT := Lib.hid ht
          have HN2 := Lib.hid hn2
          have HRS := Lib.hid hrs
          have HM := Lib.hid hM
          clear ho ht hn2 hrs hs hs' hxx hyy hF hF'
          by_cases hxp : x = (p : Int)
          · have t1 : (x != (p : Int)) = false := by simpa using hxp
            have e1 : Hid (s' = s ||| 2 ^ k) := HT.out hxp
            have e2 : Hid ((clS (usL qs) (rssL qs) cs ps s).set k (F' - F) = clS (usL qs) (rssL qs) cs ps s') := HN2.out hxp
            have d1 := hM.sm.int_cell (k := k) (by rw [rstr_len]; exact hlk)
            have d2 := hM.sm.frozen k
            clear hxp HO HT HN2 hM
            go_upto_region 14 with fail
            have hS2 := HM.out.sm.int_set k y
            rw [HRS.out, ← e1.out] at hS2
            have hL2 := HM.out.ld.far (p := ⟨g2, k, none⟩) (by show g1 ≠ g2; omega) (.int .i64 y)
            have hb2 := HM.out.bw.setCell (p := ⟨g2, k, none⟩) hg2w (.int .i64 y)
            generalize hW : wr.setCell ⟨g2, k, none⟩ (.int .i64 y) = W at hS2 hL2 hb2 ⊢
            clear hW hx hy d1 d2
            have M1 := MU1 W (H0.out.below hb2) (Ints.of_blk' hS2 (rstr_len _ _))
            have HS2 := Lib.hid hS2
            have HL2 := Lib.hid hL2
            have HB2 := Lib.hid hb2
            clear hS2 hL2 hb2 MU1
            go_upto_region 15 with (go_at_call 26; ((with_reducible refine M1.mono ?_); rintro e w2 ⟨rfl, hb⟩; clear M1))
            have hL3 := HL2.out.below hb HL2.out.lt
            have hS3 := HS2.out.below hb HS2.out.lt
            have hb3 := bt HB2.out hb
            have d1 := hL3.int_cell (k := k) (by rw [clS_len]; exact hlk)
            have d2 := hL3.frozen k
            have hL4 := hL3.int_set k (F' - F)
            rw [e2.out] at hL4
            have hS4 := hS3.far (p := ⟨g1, k, none⟩) (by show g2 ≠ g1; omega) (.int .i64 (F' - F))
            have hb4 := hb3.setCell (p := ⟨g1, k, none⟩) hsz (.int .i64 (F' - F))
            have HM4 : Hid (CM w (w2.setCell ⟨g1, k, none⟩ (.int .i64 (F' - F))) g1 g2 qs cs ps s') := ⟨hL4, hS4, hb4⟩
            clear hL3 hS3 hb3 hL4 hS4 hb4 hb
            go_wp2
            go_roundw
            case rel => exact ⟨k + 1, hlk, by go_num, by rw [HS'.out, HF'.out], by rw [HS'.out]; exact HM4.out⟩
            case measure => simp [intOf]; omega
          · have t1 : (x != (p : Int)) = true := by simpa using hxp
            have e1 : Hid (s' = s) := HO.out hxp
            clear hxp HO HT HN2 hM hy
            go_wp2
            go_roundw
            case rel => exact ⟨k + 1, hlk, by go_num, by rw [HS'.out, e1.out, HF.out], by rw [HS'.out, e1.out]; exact HM.out⟩
            case measure => simp [intOf]; omega
        · obtain rfl : k = 6 := by omega
          have e1 : Hid (dnS ps (p : Int) 6 = dnS ps (((p + 1 : Nat)) : Int) 0) := by show _ = _; rw [dnS_price]; rfl
          go_wp2
          go_roundw
          case rel => exact ⟨p + 1, by omega, by go_num, by rw [e1.out], by rw [← e1.out]; exact hM⟩
          case measure => simp [intOf]; omega
    · obtain rfl : p = 31 := by omega
      have hL := hM.ld
      have hb := hM.bw
      rw [show (((31 : Nat)) : Int) = 31 from rfl, S63.out] at hL
      have HL := Lib.hid hL
      have HB := Lib.hid hb
      have hl : (clL (usL qs) (rssL qs) cs ps).length = 6 := clL_len _ _ _ _
      have HLL := Lib.hid hl
      clear hM hL hb hl
      go_wp2
      go_ret
      exact ⟨some ⟨g1, 0, none⟩, 6, by rw [HLL.out]; rfl, by rw [HLL.out]; exact Ints.of_blk' HL.out HLL.out, fun h => by rw [HLL.out] at h; omega, HB.out⟩
end Go.Proofs.YtoiaggjjfahabaaDoor
