/- CheapLoads of the program: what it computes. Condition: short lists. -/
import Derived.Test.YtoiaggjjfahabaaDoorChg5
import Derived.Test.YtoiaggjjfahabaaDoorPCheap
import Derived.Test.YtoiaggjjfahabaaDoorNews
import Derived.Test.YtoiaggjjfahabaaDoorChg8
import Derived.Test.YtoiaggjjfahabaaDoorGrow
import Derived.Test.YtoiaggjjfahabaaDoorRws
import Derived.Test.YtoiaggjjfahabaaDoorLS
import Derived.Test.YtoiaggjjfahabaaDoorDFed
namespace Go.Proofs.YtoiaggjjfahabaaDoor
open Go.RowKit
set_option linter.unusedVariables false
/-- CheapLoads -/
def clO (qs : List Quad) (cs ps : List Int) : List Int := if nsV qs = true ∧ fvV cs = true ∧ fvV ps = true then clL (usL qs) (rssL qs) cs ps else []
theorem clO_yes {qs : List Quad} {cs ps : List Int} (h1 : nsV qs = true) (h2 : fvV cs = true) (h3 : fvV ps = true) : clO qs cs ps = clL (usL qs) (rssL qs) cs ps := by unfold clO; rw [if_pos ⟨h1, h2, h3⟩]
theorem clO_no {qs : List Quad} {cs ps : List Int} (h : ¬ (nsV qs = true ∧ fvV cs = true ∧ fvV ps = true)) : clO qs cs ps = [] := by unfold clO; rw [if_neg h]
theorem clL_len (us : List Int) (rss : List (List Int)) (cs ps : List Int) : (clL us rss cs ps).length = 6 := clS_len us rss cs ps 63
theorem nn_us {qs : List Quad} (h : nsV qs = true) : NN (usL qs) := fun k => (us_bd h k).1
theorem nn_rs {qs : List Quad} (h : nsV qs = true) (k : Nat) : NN ((rssL qs).getD k []) := fun j => (rs_bd h k j).1
theorem nn_cs {cs : List Int} (h : fvV cs = true) : NN cs := fun k => ((fv_at h).2 k).1
theorem fv_rstr {cs : List Int} (h : fvV cs = true) (s : Nat) : fvV (rstr cs s) = true := by
  unfold fvV
  rw [decide_eq_true_iff]
  refine ⟨rstr_len cs s, fun k _ => ?_⟩
  rw [rstr_at]
  have := (fv_at h).2 k
  split <;> omega
theorem cl_zero (us : List Int) (rss : List (List Int)) (cs ps : List Int) : clS us rss cs ps 0 = List.replicate 6 0 := by
  unfold clS
  simp only [Nat.zero_testBit, Bool.false_eq_true, if_false]
  rfl
theorem rstr_zero (cs : List Int) : rstr cs 0 = List.replicate 6 0 := by
  unfold rstr
  simp only [Nat.zero_testBit, Bool.false_eq_true, if_false]
  rfl
/-- a result []int that reads as xs; of no element: nil -/
def CLr (w : World) (xs : List Int) (e : Ending) (w' : World) : Prop :=
  ∃ A c, e = .returned (.slice A xs.length c) ∧ Ints w' A xs.length xs ∧ (xs.length = 0 → A = none ∧ c = 0) ∧ Below w.heap.size w w'
/-- the loads and the feed of the hours so far -/
structure CM (w0 w : World) (g1 g2 : Nat) (qs : List Quad) (cs ps : List Int) (s : Nat) : Prop where
  ld : Blk w g1 3 (ints (clS (usL qs) (rssL qs) cs ps s))
  sm : Blk w g2 3 (ints (rstr cs s))
  bw : Below w0.heap.size w0 w
theorem CM.below {w0 w w' : World} {g1 g2 : Nat} {qs : List Quad} {cs ps : List Int} {s : Nat} (h : CM w0 w g1 g2 qs cs ps s) (hb : Below w.heap.size w w') : CM w0 w' g1 g2 qs cs ps s :=
  ⟨h.ld.below hb h.ld.lt, h.sm.below hb h.sm.lt, bt h.bw hb⟩
set_option maxRecDepth 100000 in
set_option maxHeartbeats 4000000 in
theorem CheapLoads_i_yes (A C Q : Option Addr) (n c1 c2 c3 : Nat) (qs : List Quad) (cs ps : List Int) (w : World) (h : Books w A n qs) (hC : Ints w C 6 cs) (hQ : Ints w Q 6 ps) (hn : n ≤ 1048576) (hv1 : nsV qs = true) (hv2 : fvV cs = true) (hv3 : fvV ps = true) :
    Calls Tryd.prog 24 #[.slice A n c1, .slice C 6 c2, .slice Q 6 c3] w (CLr w (clL (usL qs) (rssL qs) cs ps)) := by
  have K1 : ∀ w, Books w A n qs → Calls Tryd.prog 57 #[.slice A n c1] w fun e w' => e = .returned (.bool true) ∧ Below w.heap.size w w' := fun w h => by have := NeedsValid_i A n c1 qs w h hn; rw [hv1] at this; exact this
  have K2 : ∀ w, Ints w C 6 cs → Calls Tryd.prog 58 #[.slice C 6 c2] w fun e w' => e = .returned (.bool true) ∧ Below w.heap.size w w' := fun w h => by have := FeedValid_i C 6 c2 cs w h (by omega); rw [hv2] at this; exact this
  have K3 : ∀ w, Ints w Q 6 ps → Calls Tryd.prog 58 #[.slice Q 6 c3] w fun e w' => e = .returned (.bool true) ∧ Below w.heap.size w w' := fun w h => by have := FeedValid_i Q 6 c3 ps w h (by omega); rw [hv3] at this; exact this
  have hmk := run_make_row' (P := Tryd.prog) 28 3 (.int .i64 0) 8 Tryd.underlying28 infoIn rfl .i64 .i64 6 (by omega) (by omega)
  rw [show ((6 : Nat) : Int) = 6 from rfl] at hmk
  have hu := nn_us hv1
  have hr := nn_rs hv1
  have hc := nn_cs hv2
  have pb := (fv_at hv3).2
  have s0 := dnS_start (ps := ps) (fun k => (pb k).1)
  have s63 := dnS_end (ps := ps) (fun k => (pb k).2)
  have f0 := fV_zero (us := usL qs) (rss := rssL qs) (cs := cs) hu hr hc
  have MU0 : (∀ (g2 : Nat) (s : Nat) (w : World), Books w A n qs → Ints w (some ⟨g2, 0, none⟩) 6 (rstr cs s) → Calls Tryd.prog 26 #[.slice A n c1, .slice (some ⟨g2, 0, none⟩) 6 6] w fun e w' => e = .returned (.int .i64 (fV (usL qs) (rssL qs) cs s)) ∧ Below w.heap.size w w') := fun g2 s w h h' => by
    have := MostUnits_i A (some ⟨g2, 0, none⟩) n c1 6 6 qs (rstr cs s) w h h' hn (by omega)
    rw [(muV_nn hv1 (fv_rstr hv2 s)).1] at this; exact this
  have FB0 : (∀ s : Nat, 0 ≤ fV (usL qs) (rssL qs) cs s ∧ fV (usL qs) (rssL qs) cs s ≤ 106000) := fun s => (muV_nn hv1 (fv_rstr hv2 s)).2
  have MU := Lib.hid MU0
  have FB := Lib.hid FB0
  have S0 := Lib.hid s0
  have S63 := Lib.hid s63
  have F0 := Lib.hid f0
  have HCL := Lib.hid hC.1
  have HQL := Lib.hid hQ.1
  have PB := Lib.hid pb
  have H0 := Lib.hid h
  have HC0 := Lib.hid hC
  have HQ0 := Lib.hid hQ
  clear hv1 hv2 hv3 hu hr hc pb s0 s63 f0 MU0 FB0
  obtain ⟨cb, co, rfl⟩ := hC.addr (by omega)
  obtain ⟨qb, qo, rfl⟩ := hQ.addr (by omega)
  have hcl := (hC.cellx 0 (by omega)).2
  have hql := (hQ.cellx 0 (by omega)).2
  go_enter Tryd.func24, Tryd.ntmps24
  go_upto_region 3 with (first
    | (go_at_call 57; ((with_reducible refine (K1 _ h).mono ?_); rintro e w1 ⟨rfl, hb⟩; replace h := h.below hb; replace hC := hC.below hb; replace hQ := hQ.below hb; have hw := hb; clear hb K1))
    | (go_at_call 58; ((with_reducible refine (K2 _ hC).mono ?_); rintro e w1 ⟨rfl, hb⟩; replace h := h.below hb; replace hC := hC.below hb; replace hQ := hQ.below hb; replace hw := bt hw hb; clear hb K2))
    | (go_at_call 58; ((with_reducible refine (K3 _ hQ).mono ?_); rintro e w1 ⟨rfl, hb⟩; replace h := h.below hb; replace hC := hC.below hb; replace hQ := hQ.below hb; replace hw := bt hw hb; clear hb K3)))
  clear h hC hQ
  have hsz := hw.size
  have hB1 : Blk (w1.alloc (.cells (madeCells #[.int .i64 0] 6) 3)) w1.heap.size 3 (ints (clS (usL qs) (rssL qs) cs ps 0)) := by rw [cl_zero, ← ints_made]; exact Blk.new _ _ _
  have hB2 : Blk ((w1.alloc (.cells (madeCells #[.int .i64 0] 6) 3)).alloc (.cells (madeCells #[.int .i64 0] 6) 3)) (w1.heap.size + 1) 3 (ints (rstr cs 0)) := by
    rw [rstr_zero, ← ints_made]
    have := Blk.new (w1.alloc (.cells (madeCells #[.int .i64 0] 6) 3)) 3 (madeCells #[.int .i64 0] 6)
    simpa using this
  have hCM : CM w ((w1.alloc (.cells (madeCells #[.int .i64 0] 6) 3)).alloc (.cells (madeCells #[.int .i64 0] 6) 3)) w1.heap.size (w1.heap.size + 1) qs cs ps (dnS ps 0 0) := by rw [S0.out]; exact ⟨hB1.alloc _, hB2, (hw.alloc hsz _).alloc (by simp; omega) _⟩
  have HCM := Lib.hid hCM
  clear hB1 hB2 hCM hw
  go_wp2
  clear hmk
  obtain ⟨g1, hg1⟩ : ∃ g, w1.heap.size = g := ⟨_, rfl⟩
  obtain ⟨g2, hg2⟩ : ∃ g, g1 + 1 = g := ⟨_, rfl⟩
  rw [hg1] at hsz
  rw [hg1, hg2] at HCM ⊢
  have hgg : g1 < g2 := by omega
  have hg2w : w.heap.size ≤ g2 := by omega
  clear hg1 hg2
  have e0 : Hid ((0 : Int) = fV (usL qs) (rssL qs) cs (dnS ps ((0 : Nat) : Int) 0)) := by show _ = _; rw [show (((0 : Nat) : Int)) = 0 from rfl, S0.out, F0.out]
  go_loopw [9, 10] (fun v i wr => ∃ p : Nat, p ≤ 31 ∧ i = .int .i64 p ∧ v = .int .i64 (fV (usL qs) (rssL qs) cs (dnS ps p 0)) ∧ CM w wr g1 g2 qs cs ps (dnS ps p 0)) (fun _ i _ => 31 - (intOf i).toNat)
  case atStart => exact ⟨0, by omega, rfl, congrArg _ e0.out, by rw [show (((0 : Nat)) : Int) = 0 from rfl]; exact HCM.out⟩
  case round =>
    clear HCM e0
    obtain ⟨p, hp, rfl, rfl, hM⟩ := hrel
    by_cases hlp : p ≤ 30
    · have b30 : decide ((p : Int) ≤ 30) = true := by simp; omega
      go_wp2
      go_loopw [9, 34] (fun v i wr => ∃ k : Nat, k ≤ 6 ∧ i = .int .i64 k ∧ v = .int .i64 (fV (usL qs) (rssL qs) cs (dnS ps p k)) ∧ CM w wr g1 g2 qs cs ps (dnS ps p k)) (fun _ i _ => 6 - (intOf i).toNat)
      case atStart => exact ⟨0, by omega, rfl, rfl, hM⟩
      case round =>
        clear hM
        obtain ⟨k, hk, rfl, rfl, hM⟩ := hrel
        by_cases hlk : k < 6
        · have hx := ((HQ0.out.below hM.bw).cellx k hlk).1
          have hy := ((HC0.out.below hM.bw).cellx k hlk).1
          have ho := fun e => dnS_other (ps := ps) (p := (p : Int)) (h := k) e
          have ht := fun e => dnS_this (ps := ps) (p := (p : Int)) (h := k) hlk e
          have hn2 := fun e => cl_next (us := usL qs) (rss := rssL qs) (cs := cs) (ps := ps) (p := (p : Int)) (h := k) hlk e
          have hrs := rstr_set cs (dnS ps p k) k
          have i1 : (0 : Int) ≤ (k : Int) := by omega
          have i2 : (k : Int) < (6 : Int) := by omega
          obtain ⟨s, hs⟩ : ∃ s, dnS ps p k = s := ⟨_, rfl⟩
          obtain ⟨s', hs'⟩ : ∃ s', dnS ps p (k + 1) = s' := ⟨_, rfl⟩
          obtain ⟨x, hxx⟩ : ∃ x, ps.getD k 0 = x := ⟨_, rfl⟩
          obtain ⟨y, hyy⟩ : ∃ y, cs.getD k 0 = y := ⟨_, rfl⟩
          have HS' := Lib.hid hs'
          rw [hxx] at hx ho ht hn2
          rw [hyy] at hy hrs
          rw [hs, hs'] at ho ht hn2
          rw [hs] at hM hrs ⊢
          have fb := FB.out s
          have fb' := FB.out s'
          have MU1 := MU.out g2 s'
          obtain ⟨F, hF⟩ : ∃ F, fV (usL qs) (rssL qs) cs s = F := ⟨_, rfl⟩
          obtain ⟨F', hF'⟩ : ∃ F', fV (usL qs) (rssL qs) cs s' = F' := ⟨_, rfl⟩
          rw [hF] at fb hn2 ⊢
          rw [hF'] at fb' hn2 MU1
          have HF' := Lib.hid hF'
          have HF := Lib.hid hF
          have HO := Lib.hid ho
          have HT := Lib.hid ht
          have HN2 := Lib.hid hn2
          have HRS := Lib.hid hrs
          have HM := Lib.hid hM
          clear ho ht hn2 hrs hs hs' hxx hyy hF hF'
          by_cases hxp : x = (p : Int)
          · have t1 : (x != (p : Int)) = false := by simpa using hxp
            have e1 : Hid (s' = s ||| 2 ^ k) := HT.out hxp
            have e2 : Hid ((clS (usL qs) (rssL qs) cs ps s).set k (F' - F) = clS (usL qs) (rssL qs) cs ps s') := HN2.out hxp
            have d1 := hM.sm.int_cell (k := k) (by rw [rstr_len]; exact hlk)
            have d2 := hM.sm.frozen k
            clear hxp HO HT HN2 hM
            go_upto_region 14 with fail
            have hS2 := HM.out.sm.int_set k y
            rw [HRS.out, ← e1.out] at hS2
            have hL2 := HM.out.ld.far (p := ⟨g2, k, none⟩) (by show g1 ≠ g2; omega) (.int .i64 y)
            have hb2 := HM.out.bw.setCell (p := ⟨g2, k, none⟩) hg2w (.int .i64 y)
            generalize hW : wr.setCell ⟨g2, k, none⟩ (.int .i64 y) = W at hS2 hL2 hb2 ⊢
            clear hW hx hy d1 d2
            have M1 := MU1 W (H0.out.below hb2) (Ints.of_blk' hS2 (rstr_len _ _))
            have HS2 := Lib.hid hS2
            have HL2 := Lib.hid hL2
            have HB2 := Lib.hid hb2
            clear hS2 hL2 hb2 MU1
            go_upto_region 15 with (go_at_call 26; ((with_reducible refine M1.mono ?_); rintro e w2 ⟨rfl, hb⟩; clear M1))
            have hL3 := HL2.out.below hb HL2.out.lt
            have hS3 := HS2.out.below hb HS2.out.lt
            have hb3 := bt HB2.out hb
            have d1 := hL3.int_cell (k := k) (by rw [clS_len]; exact hlk)
            have d2 := hL3.frozen k
            have hL4 := hL3.int_set k (F' - F)
            rw [e2.out] at hL4
            have hS4 := hS3.far (p := ⟨g1, k, none⟩) (by show g2 ≠ g1; omega) (.int .i64 (F' - F))
            have hb4 := hb3.setCell (p := ⟨g1, k, none⟩) hsz (.int .i64 (F' - F))
            have HM4 : Hid (CM w (w2.setCell ⟨g1, k, none⟩ (.int .i64 (F' - F))) g1 g2 qs cs ps s') := ⟨hL4, hS4, hb4⟩
            clear hL3 hS3 hb3 hL4 hS4 hb4 hb
            go_wp2
            go_roundw
            case rel => exact ⟨k + 1, hlk, by go_num, by rw [HS'.out, HF'.out], by rw [HS'.out]; exact HM4.out⟩
            case measure => simp [intOf]; omega
          · have t1 : (x != (p : Int)) = true := by simpa using hxp
            have e1 : Hid (s' = s) := HO.out hxp
            clear hxp HO HT HN2 hM hy
            go_wp2
            go_roundw
            case rel => exact ⟨k + 1, hlk, by go_num, by rw [HS'.out, e1.out, HF.out], by rw [HS'.out, e1.out]; exact HM.out⟩
            case measure => simp [intOf]; omega
        · obtain rfl : k = 6 := by omega
          have e1 : Hid (dnS ps (p : Int) 6 = dnS ps (((p + 1 : Nat)) : Int) 0) := by show _ = _; rw [dnS_price]; rfl
          go_wp2
          go_roundw
          case rel => exact ⟨p + 1, by omega, by go_num, by rw [e1.out], by rw [← e1.out]; exact hM⟩
          case measure => simp [intOf]; omega
    · obtain rfl : p = 31 := by omega
      have hL := hM.ld
      have hb := hM.bw
      rw [show (((31 : Nat)) : Int) = 31 from rfl, S63.out] at hL
      have HL := Lib.hid hL
      have HB := Lib.hid hb
      have hl : (clL (usL qs) (rssL qs) cs ps).length = 6 := clL_len _ _ _ _
      have HLL := Lib.hid hl
      clear hM hL hb hl
      go_wp2
      go_ret
      exact ⟨some ⟨g1, 0, none⟩, 6, by rw [HLL.out]; rfl, by rw [HLL.out]; exact Ints.of_blk' HL.out HLL.out, fun h => by rw [HLL.out] at h; omega, HB.out⟩
end Go.Proofs.YtoiaggjjfahabaaDoor
/- CheapLoads of the program at every argument; l4Some of the reference. Conditions: short lists. -/
namespace Go.Proofs.YtoiaggjjfahabaaDoor
open Go.RowKit
set_option linter.unusedVariables false
theorem CLr.nil (w w' : World) (hb : Below w.heap.size w w') : CLr w [] (.returned (.slice none 0 0)) w' := ⟨none, 0, rfl, ⟨rfl, fun h => absurd h (by simp)⟩, fun _ => ⟨rfl, rfl⟩, hb⟩
set_option maxHeartbeats 1000000 in
theorem CheapLoads_i (A C Q : Option Addr) (n c1 m c2 k c3 : Nat) (qs : List Quad) (cs ps : List Int) (w : World) (h : Books w A n qs) (hC : Ints w C m cs) (hQ : Ints w Q k ps) (hn : n ≤ 1048576) (hm : m ≤ 1048576) (hk : k ≤ 1048576) :
    Calls Tryd.prog 24 #[.slice A n c1, .slice C m c2, .slice Q k c3] w (CLr w (clO qs cs ps)) := by
  obtain ⟨V1, hV1⟩ : ∃ V, nsV qs = V := ⟨_, rfl⟩
  obtain ⟨V2, hV2⟩ : ∃ V, fvV cs = V := ⟨_, rfl⟩
  obtain ⟨V3, hV3⟩ : ∃ V, fvV ps = V := ⟨_, rfl⟩
  have K1 : ∀ w, Books w A n qs → Calls Tryd.prog 57 #[.slice A n c1] w fun e w' => e = .returned (.bool V1) ∧ Below w.heap.size w w' := fun w h => by have := NeedsValid_i A n c1 qs w h hn; rw [hV1] at this; exact this
  have K2 : ∀ w, Ints w C m cs → Calls Tryd.prog 58 #[.slice C m c2] w fun e w' => e = .returned (.bool V2) ∧ Below w.heap.size w w' := fun w h => by have := FeedValid_i C m c2 cs w h hm; rw [hV2] at this; exact this
  have K3 : ∀ w, Ints w Q k ps → Calls Tryd.prog 58 #[.slice Q k c3] w fun e w' => e = .returned (.bool V3) ∧ Below w.heap.size w w' := fun w h => by have := FeedValid_i Q k c3 ps w h hk; rw [hV3] at this; exact this
  have go : ¬ (V1 = true ∧ V2 = true ∧ V3 = true) → Calls Tryd.prog 24 #[.slice A n c1, .slice C m c2, .slice Q k c3] w (CLr w []) := by
    intro hno
    clear hV1 hV2 hV3
    cases V1
    · clear hno
      go_enter Tryd.func24, Tryd.ntmps24
      go_wp2_with (go_at_call 57; ((with_reducible refine (K1 _ h).mono ?_); rintro e w1 ⟨rfl, hb1⟩))
      all_goals (go_ret; exact CLr.nil _ _ hb1)
    · cases V2
      · clear hno
        go_enter Tryd.func24, Tryd.ntmps24
        go_wp2_with (first
          | (go_at_call 57; ((with_reducible refine (K1 _ h).mono ?_); rintro e w1 ⟨rfl, hb1⟩))
          | (go_at_call 58; ((with_reducible refine (K2 _ (hC.below hb1)).mono ?_); rintro e w2 ⟨rfl, hb2⟩)))
        all_goals (go_ret; exact CLr.nil _ _ (bt hb1 hb2))
      · cases V3
        · clear hno
          go_enter Tryd.func24, Tryd.ntmps24
          go_wp2_with (first
            | (go_at_call 57; ((with_reducible refine (K1 _ h).mono ?_); rintro e w1 ⟨rfl, hb1⟩))
            | (go_at_call 58; ((with_reducible refine (K2 _ (hC.below hb1)).mono ?_); rintro e w2 ⟨rfl, hb2⟩; have hb3 := bt hb1 hb2; clear K2))
            | (go_at_call 58; ((with_reducible refine (K3 _ (hQ.below hb3)).mono ?_); rintro e w3 ⟨rfl, hb4⟩)))
          all_goals (go_ret; exact CLr.nil _ _ (bt hb3 hb4))
        · exact absurd ⟨rfl, rfl, rfl⟩ hno
  by_cases hv : nsV qs = true ∧ fvV cs = true ∧ fvV ps = true
  · obtain ⟨v1, v2, v3⟩ := hv
    rw [clO_yes v1 v2 v3]
    obtain rfl : m = 6 := by rw [← hC.1]; exact (fv_at v2).1
    obtain rfl : k = 6 := by rw [← hQ.1]; exact (fv_at v3).1
    exact CheapLoads_i_yes A C Q n c1 c2 c3 qs cs ps w h hC hQ hn v1 v2 v3
  · rw [clO_no hv]
    exact go (by rw [← hV1, ← hV2, ← hV3]; exact hv)
theorem take_next (zs : List Int) {k : Nat} (h : k < zs.length) : zs.take (k + 1) = zs.take k ++ [zs.getD k 0] := by
  rw [List.take_succ_eq_append_getElem h, List.getD_eq_getElem?_getD, List.getElem?_eq_getElem h]; rfl
theorem rem_shr (s k : Nat) : (s.testBit k = true → Int.tmod ((s : Int) / 2 ^ k) 2 = 1 ∧ ((s : Int) / 2 ^ k) % 2 = 1) ∧ (s.testBit k = false → Int.tmod ((s : Int) / 2 ^ k) 2 = 0 ∧ ((s : Int) / 2 ^ k) % 2 = 0) := by
  obtain ⟨h1, h2, h3, h4⟩ := test_shr s k
  constructor
  · intro h; rw [h] at h1 h3; exact ⟨by simpa using h1, by simpa using h3⟩
  · intro h; rw [h] at h2 h4; exact ⟨by simpa using h2, by simpa using h4⟩
set_option maxRecDepth 100000 in
set_option maxHeartbeats 2000000 in
theorem l4Some_s (A : Option Addr) (cap s : Nat) (cs : List Int) (w : World) (h : Ints w A 6 cs) (hb : ∀ k, 0 ≤ cs.getD k 0 ∧ cs.getD k 0 ≤ 30) :
    Calls Tryd.prog 62 #[.slice A 6 cap, .int .i64 s] w fun e w' => ∃ g c, e = .returned (.slice (some ⟨g, 0, none⟩) 6 c) ∧ Ints w' (some ⟨g, 0, none⟩) 6 (rstr cs s) ∧ Below w.heap.size w w' := by
  obtain ⟨i0, hi, ia, ib, ic⟩ := info_parts infoIn
  have hcl := Lib.hid h.1
  have HB := Lib.hid hb
  clear hb
  obtain ⟨cb, co, rfl⟩ := h.addr (by omega)
  go_enter Tryd.func62, Tryd.ntmps62
  go_wp2
  have T0 : (w.alloc (.cells #[] 3)).ownsRow w.heap.size 3 1 (.slice (some ⟨w.heap.size, 0, none⟩) 0 0) 0 (((rstr cs s).take 0).map (Value.int .i64)) := nw_new0 w w.heap.size 3 1 (Nat.le_refl _)
  go_loopw [5, 6] (fun v i wr => ∃ (k g c : Nat), i = .int .i64 k ∧ k ≤ 6 ∧ v = .slice (some ⟨g, 0, none⟩) k c ∧ wr.ownsRow w.heap.size 3 1 v k (((rstr cs s).take k).map (Value.int .i64)) ∧ Below w.heap.size w wr) (fun _ i _ => 6 - (intOf i).toNat)
  case atStart => exact ⟨0, _, _, rfl, by omega, rfl, T0, (Below.refl _ _).alloc (Nat.le_refl _) _⟩
  case round =>
    clear T0
    obtain ⟨k, g, c, rfl, hk, rfl, T, hw⟩ := hrel
    by_cases hlk : k < 6
    · have hx := ((h.below hw).cellx k hlk).1
      have hxl := ((h.below hw).cellx k hlk).2
      have hbd := HB.out k
      have hx0 := (h.cellx k hlk).1
      have hxw := (h.cellx k hlk).2
      have hrs := rstr_at cs s k
      have htk := take_next (rstr cs s) (k := k) (by rw [rstr_len]; exact hlk)
      obtain ⟨y, hy⟩ : ∃ y, cs.getD k 0 = y := ⟨_, rfl⟩
      rw [hy] at hx hbd hrs hx0
      have HX0 := Lib.hid hx0
      clear hx0
      have hsz := hw.size
      have rs := rem_shr s k
      have i1 : (0 : Int) ≤ (k : Int) := by omega
      have i2 : (k : Int) < (6 : Int) := by omega
      have HT := Lib.hid T
      have HW := Lib.hid hw
      have HTK := Lib.hid htk
      clear T hw htk hy
      cases hbit : s.testBit k
      · obtain ⟨r1, r2⟩ := rs.2 hbit
        rw [hbit, if_neg (by simp)] at hrs
        have u1 : IntKind.i64.wrap (y * 0) = 0 := by rw [Int.mul_zero]; rfl
        have HRS := Lib.hid hrs
        have HTD : Hid (wr.drew.ownsRow w.heap.size 3 1 (.slice (some ⟨g, 0, none⟩) k c) k (((rstr cs s).take k).map (Value.int .i64))) := HT.out
        clear rs hbit hrs
        go_upto_region 5 with fail
        go_region_held3 (fun w' => w'.cell? ⟨cb, co + k, none⟩ = some (.int .i64 y)) (first | exact hx | exact nw_keep hxl hx _ | assumption | exact (hb1.cell (p := ⟨cb, co + k, none⟩) hxw).trans HX0.out) (first
          | (refine step_append_fresh (by rfl) (.tmp 14) (.tmp 24) 28 rfl w.heap.size 3 i0 (.int .i64 0) 1 8 Tryd.underlying28 hi ia ib ic rfl (by decide) _ _ _ (by rfl) (HTD.out.alloc _) ⟨wr.drew.heap.size, 0, none⟩ 1 1 ([(0 : Int)].map (Value.int .i64)) (by rfl) ?_ ?_ ?_ ?_ ?_ ?_ ?_; (rfl); (exact news_one wr.drew _ ((0 : Int))); (exact one_ints [(0 : Int)]); (unfold maxLen; omega); (omega); (simp; omega); (intro v1 w1 hown1 hgrow _; have hb1 := (HW.out.drew.alloc (by simpa using hsz) _).grown hgrow (by simp; omega) (fun q hq => (HTD.out.lt q hq).1))))
        all_goals
          obtain ⟨g1, c1, rfl, _, _, _, _⟩ := own_at hown1 (by omega)
          have ho : Hid (w1.ownsRow w.heap.size 3 1 (.slice (some ⟨g1, 0, none⟩) (k + 1) c1) (k + 1) (((rstr cs s).take (k + 1)).map (Value.int .i64))) := by
            show World.ownsRow _ _ _ _ _ _ _
            rw [HTK.out, HRS.out, List.map_append]; exact hown1
          clear hown1 hgrow
          go_wp2
          go_roundw
          case rel => exact ⟨k + 1, g1, c1, by go_num, by omega, rfl, ho.out, hb1⟩
          case measure => simp [intOf]; omega
      · obtain ⟨r1, r2⟩ := rs.1 hbit
        rw [hbit, if_pos ⟨hlk, rfl⟩] at hrs
        have u1 : IntKind.i64.wrap (y * 1) = y := by rw [Int.mul_one]; exact IntWalk.i64_in _ (by omega)
        have u2 : IntKind.i64.wrap y = y := IntWalk.i64_in _ (by omega)
        have HRS := Lib.hid hrs
        have HTD : Hid (wr.drew.ownsRow w.heap.size 3 1 (.slice (some ⟨g, 0, none⟩) k c) k (((rstr cs s).take k).map (Value.int .i64))) := HT.out
        clear rs hbit hrs
        go_upto_region 5 with fail
        go_region_held3 (fun w' => w'.cell? ⟨cb, co + k, none⟩ = some (.int .i64 y)) (first | exact hx | exact nw_keep hxl hx _ | assumption | exact (hb1.cell (p := ⟨cb, co + k, none⟩) hxw).trans HX0.out) (first
          | (refine step_append_fresh (by rfl) (.tmp 14) (.tmp 24) 28 rfl w.heap.size 3 i0 (.int .i64 0) 1 8 Tryd.underlying28 hi ia ib ic rfl (by decide) _ _ _ (by rfl) (HTD.out.alloc _) ⟨wr.drew.heap.size, 0, none⟩ 1 1 ([y].map (Value.int .i64)) (by rfl) ?_ ?_ ?_ ?_ ?_ ?_ ?_; (rfl); (exact news_one wr.drew _ (y)); (exact one_ints [y]); (unfold maxLen; omega); (omega); (simp; omega); (intro v1 w1 hown1 hgrow _; have hb1 := (HW.out.drew.alloc (by simpa using hsz) _).grown hgrow (by simp; omega) (fun q hq => (HTD.out.lt q hq).1))))
        all_goals
          obtain ⟨g1, c1, rfl, _, _, _, _⟩ := own_at hown1 (by omega)
          have ho : Hid (w1.ownsRow w.heap.size 3 1 (.slice (some ⟨g1, 0, none⟩) (k + 1) c1) (k + 1) (((rstr cs s).take (k + 1)).map (Value.int .i64))) := by
            show World.ownsRow _ _ _ _ _ _ _
            rw [HTK.out, HRS.out, List.map_append]; exact hown1
          clear hown1 hgrow
          go_wp2
          go_roundw
          case rel => exact ⟨k + 1, g1, c1, by go_num, by omega, rfl, ho.out, hb1⟩
          case measure => simp [intOf]; omega
    · obtain rfl : k = 6 := by omega
      rw [List.take_of_length_le (by rw [rstr_len]; exact Nat.le_refl _)] at T
      have hR := (Rw.of_own T (rstr_len cs s)).1
      go_wp2
      go_ret
      exact ⟨g, c, rfl, hR.ints, hw⟩
end Go.Proofs.YtoiaggjjfahabaaDoor
/- CheapLoads of the reference: what it computes. Conditions: short lists, small numbers in the needs. -/
namespace Go.Proofs.YtoiaggjjfahabaaDoor
open Go.RowKit
set_option linter.unusedVariables false
/-- a result []int that reads as xs -/
def CLs (w : World) (xs : List Int) (e : Ending) (w' : World) : Prop := ∃ A c, e = .returned (.slice A xs.length c) ∧ Ints w' A xs.length xs ∧ Below w.heap.size w w'
theorem CLs.nil (w w' : World) (A : Option Addr) (c : Nat) (hb : Below w.heap.size w w') : CLs w [] (.returned (.slice A 0 c)) w' := ⟨A, c, rfl, ⟨rfl, fun h => absurd h (by simp)⟩, hb⟩
theorem CLr.s {w w' : World} {xs : List Int} {e : Ending} (r : CLr w xs e w') : CLs w xs e w' := by obtain ⟨A, c, h1, h2, _, h4⟩ := r; exact ⟨A, c, h1, h2, h4⟩
theorem or_add : ∀ s, s < 64 → ∀ b, b < 6 → s.testBit b = false → s ||| 2 ^ b = s + 2 ^ b := by decide +kernel
/-- the step of the choice -/
theorem bst_step (ps : List Int) (s h : Nat) : bstTo ps s (h + 1) = if s.testBit h = false ∧ (bstTo ps s h < 0 ∨ ps.getD h 0 < ps.getD (bstTo ps s h).toNat 0) then (h : Int) else bstTo ps s h := rfl
theorem bst_cases (ps : List Int) (s h : Nat) : bstTo ps s h = -1 ∨ ∃ b : Nat, bstTo ps s h = b ∧ b < h := by
  rcases bstTo_spec ps s h with h1 | ⟨b, h1, h2, _⟩
  · exact .inl h1.1
  · exact .inr ⟨b, h1, h2⟩
theorem smA_ns {qs : List Quad} (h : nsV qs = true) : SmA qs := fun i => by
  rcases Nat.lt_or_ge i qs.length with g | g
  · have := (ns_at h).2 i g; omega
  · rw [getD_big _ _ _ g]; simp [q0]
theorem ld_step (us : List Int) (rss : List (List Int)) (cs ps : List Int) {n b : Nat} (hn : n < 6) (hb : (ordL ps).getD n 0 = b) :
    ldTo us rss cs (ordL ps) (n + 1) = (ldTo us rss cs (ordL ps) n).set b (fV us rss cs (spS ps (n + 1)) - fV us rss cs (spS ps n)) := by
  show (ldTo us rss cs (ordL ps) n).set ((ordL ps).getD n 0) _ = _
  rw [hb, pre_sp ps (n + 1) (by omega), pre_sp ps n (by omega)]
set_option maxRecDepth 100000 in
set_option maxHeartbeats 8000000 in
theorem CheapLoads_s_yes (A C Q : Option Addr) (n c1 c2 c3 : Nat) (qs : List Quad) (cs ps : List Int) (w : World) (h : Books w A n qs) (hC : Ints w C 6 cs) (hQ : Ints w Q 6 ps) (hn : n ≤ 1048576) (hv1 : nsV qs = true) (hv2 : fvV cs = true) (hv3 : fvV ps = true) :
    Calls Tryd.prog 25 #[.slice A n c1, .slice C 6 c2, .slice Q 6 c3] w (CLs w (clL (usL qs) (rssL qs) cs ps)) := by
  have sa := smA_ns hv1
  have K1 : ∀ w, Books w A n qs → Calls Tryd.prog 59 #[.slice A n c1] w fun e w' => e = .returned (.bool true) ∧ Below w.heap.size w w' := fun w h => by have := NeedsValid_s A n c1 qs w h hn sa; rw [hv1] at this; exact this
  have K2 : ∀ w, Ints w C 6 cs → Calls Tryd.prog 60 #[.slice C 6 c2] w fun e w' => e = .returned (.bool true) ∧ Below w.heap.size w w' := fun w h => by have := FeedValid_s C 6 c2 cs w h (by omega); rw [hv2] at this; exact this
  have K3 : ∀ w, Ints w Q 6 ps → Calls Tryd.prog 60 #[.slice Q 6 c3] w fun e w' => e = .returned (.bool true) ∧ Below w.heap.size w w' := fun w h => by have := FeedValid_s Q 6 c3 ps w h (by omega); rw [hv3] at this; exact this
  have hmk := run_make_row' (P := Tryd.prog) 28 3 (.int .i64 0) 8 Tryd.underlying28 infoIn rfl .i64 .i64 6 (by omega) (by omega)
  rw [show ((6 : Nat) : Int) = 6 from rfl] at hmk
  have L40 : (∀ (s : Nat) (w : World), Ints w C 6 cs → Calls Tryd.prog 62 #[.slice C 6 c2, .int .i64 s] w fun e w' => ∃ g c, e = .returned (.slice (some ⟨g, 0, none⟩) 6 c) ∧ Ints w' (some ⟨g, 0, none⟩) 6 (rstr cs s) ∧ Below w.heap.size w w') := fun s w h => l4Some_s C c2 s cs w h (fv_at hv2).2
  have MU0 : (∀ (g c : Nat) (s : Nat) (w : World), Books w A n qs → Ints w (some ⟨g, 0, none⟩) 6 (rstr cs s) → Calls Tryd.prog 61 #[.slice A n c1, .slice (some ⟨g, 0, none⟩) 6 c] w fun e w' => e = .returned (.int .i64 (fV (usL qs) (rssL qs) cs s)) ∧ Below w.heap.size w w') := fun g c s w h h' => by
    have := MostUnits_s A (some ⟨g, 0, none⟩) n c1 c 6 qs (rstr cs s) w h h' hn (by omega) sa
    rw [(muV_nn hv1 (fv_rstr hv2 s)).1] at this; exact this
  have FB0 : (∀ s : Nat, 0 ≤ fV (usL qs) (rssL qs) cs s ∧ fV (usL qs) (rssL qs) cs s ≤ 106000) := fun s => (muV_nn hv1 (fv_rstr hv2 s)).2
  have MU := Lib.hid MU0
  have L4 := Lib.hid L40
  have FB := Lib.hid FB0
  have H0 := Lib.hid h
  have HC0 := Lib.hid hC
  have HQ0 := Lib.hid hQ
  clear hv1 hv2 hv3 MU0 L40 FB0 sa
  obtain ⟨qb, qo, rfl⟩ := hQ.addr (by omega)
  go_enter Tryd.func25, Tryd.ntmps25
  go_upto_region 3 with (first
    | (go_at_call 59; ((with_reducible refine (K1 _ h).mono ?_); rintro e w1 ⟨rfl, hb⟩; replace h := h.below hb; replace hC := hC.below hb; replace hQ := hQ.below hb; have hw := hb; clear hb K1))
    | (go_at_call 60; ((with_reducible refine (K2 _ hC).mono ?_); rintro e w1 ⟨rfl, hb⟩; replace h := h.below hb; replace hC := hC.below hb; replace hQ := hQ.below hb; replace hw := bt hw hb; clear hb K2))
    | (go_at_call 60; ((with_reducible refine (K3 _ hQ).mono ?_); rintro e w1 ⟨rfl, hb⟩; replace h := h.below hb; replace hC := hC.below hb; replace hQ := hQ.below hb; replace hw := bt hw hb; clear hb K3)))
  clear h hC hQ
  have hsz := hw.size
  have hB1 : Blk (w1.alloc (.cells (madeCells #[.int .i64 0] 6) 3)) w1.heap.size 3 (ints (ldTo (usL qs) (rssL qs) cs (ordL ps) 0)) := by
    show Blk _ _ _ (ints (List.replicate 6 0)); rw [← ints_made]; exact Blk.new _ _ _
  have hbw : Below w.heap.size w (w1.alloc (.cells (madeCells #[.int .i64 0] 6) 3)) := hw.alloc hsz _
  have HB1 := Lib.hid hB1
  clear hB1 hw
  go_wp2
  clear hmk
  obtain ⟨g1, hg1⟩ : ∃ g, w1.heap.size = g := ⟨_, rfl⟩
  rw [hg1] at hsz HB1 ⊢
  clear hg1
  go_loopw [8, 9] (fun v i wr => ∃ t : Nat, t ≤ 6 ∧ i = .int .i64 t ∧ v = .int .i64 (spS ps t) ∧ Blk wr g1 3 (ints (ldTo (usL qs) (rssL qs) cs (ordL ps) t)) ∧ Below w.heap.size w wr) (fun _ i _ => 6 - (intOf i).toNat)
  case atStart => exact ⟨0, by omega, rfl, rfl, HB1.out, hbw⟩
  case round =>
    clear HB1 hbw
    obtain ⟨t, ht, rfl, rfl, hB, hw⟩ := hrel
    by_cases hlt : t < 6
    · have b6 : decide ((t : Int) < 6) = true := by simp; omega
      obtain ⟨b, p1, p2, p3, p4, _⟩ := sp_pick ps t hlt
      have hlst := ld_step (usL qs) (rssL qs) cs ps hlt p2
      have hsp := show spS ps (t + 1) = spS ps t ||| 2 ^ (bstTo ps (spS ps t) 6).toNat from rfl
      have s64 := spS_lt ps t (by omega)
      rw [p1, Int.toNat_natCast, or_add _ s64 b p3 p4] at hsp
      obtain ⟨s, hs⟩ : ∃ s, spS ps t = s := ⟨_, rfl⟩
      rw [hs] at p1 p4 hlst hsp s64 ⊢
      have P1 := Lib.hid p1
      have HLST := Lib.hid hlst
      have HSP := Lib.hid hsp
      have HB := Lib.hid hB
      have HW := Lib.hid hw
      clear p1 p2 p4 hlst hsp hs hB hw
      go_wp2
      go_loopw [10, 11] (fun v i wq => ∃ k : Nat, k ≤ 6 ∧ i = .int .i64 k ∧ v = .int .i64 (bstTo ps s k) ∧ Blk wq g1 3 (ints (ldTo (usL qs) (rssL qs) cs (ordL ps) t)) ∧ Below w.heap.size w wq) (fun _ i _ => 6 - (intOf i).toNat)
      case atStart => exact ⟨0, by omega, rfl, rfl, HB.out, HW.out⟩
      case round =>
        clear HB HW
        obtain ⟨k, hk, rfl, rfl, hB, hw⟩ := hrel
        by_cases hlk : k < 6
        · have hst := bst_step ps s k
          have hbc := bst_cases ps s k
          have hI := HQ0.out.below hw
          have hx := (hI.cellx k hlk).1
          have i1 : (0 : Int) ≤ (k : Int) := by omega
          have i2 : (k : Int) < (6 : Int) := by omega
          have an := test_shr s k
          obtain ⟨x, hxx⟩ : ∃ x, ps.getD k 0 = x := ⟨_, rfl⟩
          obtain ⟨B, hBB⟩ : ∃ B, bstTo ps s k = B := ⟨_, rfl⟩
          rw [hxx] at hx hst
          rw [hBB] at hst hbc ⊢
          have HB := Lib.hid hB
          have HW := Lib.hid hw
          have HI := Lib.hid hI
          have HBB := Lib.hid hBB
          clear hB hw hI hxx hBB
          cases hbit : s.testBit k
          · rw [hbit] at an hst
            obtain ⟨an1, an2, an3, an4⟩ := an
            have HST := Lib.hid hst
            clear hbit hst
            rcases hbc with rfl | ⟨y, rfl, hyk⟩
            · have t1 : decide ((-1 : Int) < 0) = true := by decide
              have e1 : Hid (bstTo ps s (k + 1) = k) := by show _ = _; rw [HST.out, if_pos ⟨rfl, .inl (by omega)⟩]
              clear HST
              go_upto_region 12 with fail
              go_quiet (fail)
              all_goals
                go_wp2_with fail
                go_roundw
                case rel => exact ⟨k + 1, hlk, by go_num, by rw [e1.out], HB.out.drewN _, bdN HW.out _⟩
                case measure => simp [intOf]; omega
            · have hz := (HI.out.cellx y (by omega)).1
              have t1 : decide ((y : Int) < 0) = false := by simp
              obtain ⟨z, hzz⟩ : ∃ z, ps.getD y 0 = z := ⟨_, rfl⟩
              rw [hzz] at hz
              have i3 : (0 : Int) ≤ (y : Int) := by omega
              have i4 : (y : Int) < (6 : Int) := by omega
              have e0 : Hid (bstTo ps s (k + 1) = if x < z then (k : Int) else y) := by
                show _ = _
                rw [HST.out, Int.toNat_natCast, hzz]
                by_cases g : x < z
                · rw [if_pos ⟨rfl, .inr g⟩, if_pos g]
                · rw [if_neg (fun q => q.2.elim (fun q => by omega) g), if_neg g]
              clear HST hzz
              by_cases hxz : x < z
              · have t2 : decide (x < z) = true := by simpa using hxz
                have e1 : Hid (bstTo ps s (k + 1) = k) := by show _ = _; rw [e0.out, if_pos hxz]
                clear e0 hxz
                go_upto_region 12 with fail
                go_quiet (fail)
                all_goals
                  go_wp2_with fail
                  go_roundw
                  case rel => exact ⟨k + 1, hlk, by go_num, by rw [e1.out], HB.out.drewN _, bdN HW.out _⟩
                  case measure => simp [intOf]; omega
              · have t2 : decide (x < z) = false := by simpa using hxz
                have e1 : Hid (bstTo ps s (k + 1) = y) := by show _ = _; rw [e0.out, if_neg hxz]
                clear e0 hxz
                go_upto_region 12 with fail
                go_quiet (fail)
                all_goals
                  go_wp2_with fail
                  go_roundw
                  case rel => exact ⟨k + 1, hlk, by go_num, by rw [e1.out], HB.out.drewN _, bdN HW.out _⟩
                  case measure => simp [intOf]; omega
          · rw [hbit] at an hst
            obtain ⟨an1, an2, an3, an4⟩ := an
            have e1 : Hid (bstTo ps s (k + 1) = B) := by show _ = _; rw [hst, if_neg (fun q => by cases q.1)]
            clear hbit hst hbc
            go_upto_region 12 with fail
            go_quiet (fail)
            all_goals
              go_wp2_with fail
              go_roundw
              case rel => exact ⟨k + 1, hlk, by go_num, by rw [e1.out], HB.out.drewN _, bdN HW.out _⟩
              case measure => simp [intOf]; omega
        · obtain rfl : k = 6 := by omega
          rw [P1.out]
          have hBk := Lib.hid (H0.out.below hw)
          have hCk := HC0.out.below hw
          have L41 := L4.out s wr hCk
          have MU1 := fun g c => MU.out g c s
          have fb := FB.out s
          obtain ⟨F, hF⟩ : ∃ F, fV (usL qs) (rssL qs) cs s = F := ⟨_, rfl⟩
          rw [hF] at MU1 fb
          have HF := Lib.hid hF
          have HB := Lib.hid hB
          have HW := Lib.hid hw
          clear hF hB hw hCk
          go_upto_region 15 with (first
            | (go_at_call 62; ((with_reducible refine L41.mono ?_); rintro e w2 ⟨g2, cg, rfl, hI2, hb2⟩; clear L41))
            | (go_at_call 61; ((with_reducible refine (MU1 _ _ _ (hBk.out.below hb2) hI2).mono ?_); rintro e w3 ⟨rfl, hb3⟩; clear MU1 hI2)))
          have HW3 := Lib.hid (bt (bt HW.out hb2) hb3)
          have HB3 := Lib.hid ((HB.out.below hb2 HB.out.lt).below hb3 (by have := HB.out.lt; have := hb2.size; omega))
          clear HW HB hb2 hb3 hBk
          rcases (by omega : b = 0 ∨ b = 1 ∨ b = 2 ∨ b = 3 ∨ b = 4 ∨ b = 5) with rfl | rfl | rfl | rfl | rfl | rfl
          all_goals
            go_upto_region 16 with fail
            obtain ⟨s', hs'⟩ : ∃ s', spS ps (t + 1) = s' := ⟨_, rfl⟩
            have he := HSP.out
            rw [hs'] at he
            first
              | rw [show (s : Int) + 1 = (s' : Int) by omega]
              | rw [show (s : Int) + 2 = (s' : Int) by omega]
              | rw [show (s : Int) + 4 = (s' : Int) by omega]
              | rw [show (s : Int) + 8 = (s' : Int) by omega]
              | rw [show (s : Int) + 16 = (s' : Int) by omega]
              | rw [show (s : Int) + 32 = (s' : Int) by omega]
            have HE := Lib.hid hs'
            have L42 := L4.out s' w3 (HC0.out.below HW3.out)
            have MU2 := fun g c => MU.out g c s'
            have fb' := FB.out s'
            have hls := HLST.out
            rw [hs', HF.out] at hls
            obtain ⟨F', hF'⟩ : ∃ F', fV (usL qs) (rssL qs) cs s' = F' := ⟨_, rfl⟩
            rw [hF'] at MU2 fb' hls
            have HLS := Lib.hid hls
            have hBk := Lib.hid (H0.out.below HW3.out)
            clear hF' hls he hs'
            go_upto_region 7 with (first
              | (go_at_call 62; ((with_reducible refine L42.mono ?_); rintro e w4 ⟨g3, cg', rfl, hI4, hb4⟩; clear L42))
              | (go_at_call 61; ((with_reducible refine (MU2 _ _ _ (hBk.out.below hb4) hI4).mono ?_); rintro e w5 ⟨rfl, hb5⟩; clear MU2 hI4; have hw5 := bt (bt HW3.out hb4) hb5; have hB5 := (HB3.out.below hb4 HB3.out.lt).below hb5 (by have := HB3.out.lt; have := hb4.size; omega); have f1 := hB5.frozen; have c1 := fun k hk => hB5.int_cell (k := k) hk; rw [ldTo_len] at c1; have c2 := c1 0 (by omega); have c3 := c1 1 (by omega); have c4 := c1 2 (by omega); have c5 := c1 3 (by omega); have c6 := c1 4 (by omega); have c7 := c1 5 (by omega); have HB5 := Lib.hid hB5; have HW5 := Lib.hid hw5; clear c1 hB5 hw5 hb4 hb5)))
            go_wp2
            go_roundw
            case rel => exact ⟨t + 1, hlt, by go_num, by rw [HE.out], by rw [HLS.out]; exact HB5.out.int_set _ _, HW5.out.setCell hsz _⟩
            case measure => simp [intOf]; omega
    · obtain rfl : t = 6 := by omega
      have HW := Lib.hid hw
      rw [← clL_eq] at hB
      have HB := Lib.hid hB
      have HL := Lib.hid (clL_len (usL qs) (rssL qs) cs ps)
      clear hw hB
      go_wp2
      go_ret
      exact ⟨some ⟨g1, 0, none⟩, 6, by rw [HL.out]; rfl, by rw [HL.out]; exact Ints.of_blk' HB.out HL.out, HW.out⟩
end Go.Proofs.YtoiaggjjfahabaaDoor
/- CheapLoads of the reference at every argument; the draws of needs, a feed and prices. Conditions: short lists, small numbers in the needs. -/
namespace Go.Proofs.YtoiaggjjfahabaaDoor
open Go.RowKit
set_option linter.unusedVariables false
set_option maxHeartbeats 1000000 in
theorem CheapLoads_s (A C Q : Option Addr) (n c1 m c2 k c3 : Nat) (qs : List Quad) (cs ps : List Int) (w : World) (h : Books w A n qs) (hC : Ints w C m cs) (hQ : Ints w Q k ps) (hn : n ≤ 1048576) (hm : m ≤ 1048576) (hk : k ≤ 1048576) (sa : SmA qs) :
    Calls Tryd.prog 25 #[.slice A n c1, .slice C m c2, .slice Q k c3] w (CLs w (clO qs cs ps)) := by
  obtain ⟨V1, hV1⟩ : ∃ V, nsV qs = V := ⟨_, rfl⟩
  obtain ⟨V2, hV2⟩ : ∃ V, fvV cs = V := ⟨_, rfl⟩
  obtain ⟨V3, hV3⟩ : ∃ V, fvV ps = V := ⟨_, rfl⟩
  have K1 : ∀ w, Books w A n qs → Calls Tryd.prog 59 #[.slice A n c1] w fun e w' => e = .returned (.bool V1) ∧ Below w.heap.size w w' := fun w h => by have := NeedsValid_s A n c1 qs w h hn sa; rw [hV1] at this; exact this
  have K2 : ∀ w, Ints w C m cs → Calls Tryd.prog 60 #[.slice C m c2] w fun e w' => e = .returned (.bool V2) ∧ Below w.heap.size w w' := fun w h => by have := FeedValid_s C m c2 cs w h hm; rw [hV2] at this; exact this
  have K3 : ∀ w, Ints w Q k ps → Calls Tryd.prog 60 #[.slice Q k c3] w fun e w' => e = .returned (.bool V3) ∧ Below w.heap.size w w' := fun w h => by have := FeedValid_s Q k c3 ps w h hk; rw [hV3] at this; exact this
  have go : ¬ (V1 = true ∧ V2 = true ∧ V3 = true) → Calls Tryd.prog 25 #[.slice A n c1, .slice C m c2, .slice Q k c3] w (CLs w []) := by
    intro hno
    clear hV1 hV2 hV3
    cases V1
    · clear hno
      go_enter Tryd.func25, Tryd.ntmps25
      go_wp2_with (go_at_call 59; ((with_reducible refine (K1 _ h).mono ?_); rintro e w1 ⟨rfl, hb1⟩))
      all_goals (go_ret; exact CLs.nil _ _ _ _ (hb1.alloc hb1.size _))
    · cases V2
      · clear hno
        go_enter Tryd.func25, Tryd.ntmps25
        go_wp2_with (first
          | (go_at_call 59; ((with_reducible refine (K1 _ h).mono ?_); rintro e w1 ⟨rfl, hb1⟩))
          | (go_at_call 60; ((with_reducible refine (K2 _ (hC.below hb1)).mono ?_); rintro e w2 ⟨rfl, hb2⟩; have hb3 := bt hb1 hb2)))
        all_goals (go_ret; exact CLs.nil _ _ _ _ (hb3.alloc hb3.size _))
      · cases V3
        · clear hno
          go_enter Tryd.func25, Tryd.ntmps25
          go_wp2_with (first
            | (go_at_call 59; ((with_reducible refine (K1 _ h).mono ?_); rintro e w1 ⟨rfl, hb1⟩))
            | (go_at_call 60; ((with_reducible refine (K2 _ (hC.below hb1)).mono ?_); rintro e w2 ⟨rfl, hb2⟩; have hb3 := bt hb1 hb2; clear K2))
            | (go_at_call 60; ((with_reducible refine (K3 _ (hQ.below hb3)).mono ?_); rintro e w3 ⟨rfl, hb4⟩; have hb5 := bt hb3 hb4)))
          all_goals (go_ret; exact CLs.nil _ _ _ _ (hb5.alloc hb5.size _))
        · exact absurd ⟨rfl, rfl, rfl⟩ hno
  by_cases hv : nsV qs = true ∧ fvV cs = true ∧ fvV ps = true
  · obtain ⟨v1, v2, v3⟩ := hv
    rw [clO_yes v1 v2 v3]
    obtain rfl : m = 6 := by rw [← hC.1]; exact (fv_at v2).1
    obtain rfl : k = 6 := by rw [← hQ.1]; exact (fv_at v3).1
    exact CheapLoads_s_yes A C Q n c1 c2 c3 qs cs ps w h hC hQ hn v1 v2 v3
  · rw [clO_no hv]
    exact go (by rw [← hV1, ← hV2, ← hV3]; exact hv)
/-- drawn needs, a feed and prices -/
def DPr (w : World) (r B' : Nat) (e : Ending) (w' : World) : Prop :=
  ∃ A k c qs G m d zs H l f ys, e = .returned (.tuple #[.slice A k c, .slice G m d, .slice H l f]) ∧ (∀ w2, Stp r w' w2 → Books w2 A k qs) ∧ (∀ w2, Stp r w' w2 → Ints w2 G m zs) ∧ (∀ w2, Stp r w' w2 → Ints w2 H l ys) ∧ k ≤ 9 ∧ k ≤ c ∧ c ≤ maxLen ∧ m ≤ 7 ∧ m ≤ d ∧ d ≤ maxLen ∧ l ≤ 7 ∧ l ≤ f ∧ f ≤ maxLen ∧ (∀ q ∈ qs, SmQ q) ∧ (∀ z ∈ zs, Sm z) ∧ (∀ z ∈ ys, Sm z) ∧ RB w' r B' ∧ Stp r w w'
set_option maxRecDepth 100000 in
theorem priced_ok (r : Nat) (B : Nat) (w : World) (h : RB w r B) (hB : B ≤ 600000000) :
    Calls Tryd.prog 56 #[.pointer (some ⟨r, 0, none⟩)] w (DPr w r (B + 1000)) := by
  go_enter Tryd.func56, Tryd.ntmps56
  go_wp2_with (first
    | (go_at_call 93; ((with_reducible refine (needs_ok r 12 _ _ h ?_ ?_ ?_).mono ?_); (omega); (omega); (omega); rintro e w2 ⟨G, k, c, qs, rfl, hB1, k1, k2, k3, k4, hr2, hs⟩; have HB1 := Lib.hid hB1; clear h hB1))
    | (go_at_call 94; ((with_reducible refine (feed_ok r 12 _ _ hr2 ?_ ?_ ?_).mono ?_); (omega); (omega); (omega); rintro e w3 ⟨G', m, d, zs, rfl, hI, m1, m2, m3, m4, hr3, hs3⟩; have HI := Lib.hid hI; clear hI hr2))
    | (go_at_call 94; ((with_reducible refine (feed_ok r 12 _ _ hr3 ?_ ?_ ?_).mono ?_); (omega); (omega); (omega); rintro e w4 ⟨H', l, f, ys, rfl, hJ, l1, l2, l3, l4, hr4, hs4⟩; have HJ := Lib.hid hJ; clear hJ)))
  refine bodyPost_ret (v := .tuple #[.slice (some ⟨G, 0, none⟩) k c, .slice G' m d, .slice H' l f]) (by simp [results, Tryd.results56, go_sem]) rfl ?_
  exact ⟨some ⟨G, 0, none⟩, k, c, qs, G', m, d, zs, H', l, f, ys, rfl, fun w2 h2 => HB1.out _ (hs3.trans (hs4.trans h2)), fun w2 h2 => HI.out _ (hs4.trans h2), fun w2 h2 => HJ.out _ h2, k1, k2, k3, m1, m2, m3, l1, l2, l3, k4, m4, l4, hr4.le (by omega), hs.trans (hs3.trans hs4)⟩
/-- drawn needs, a feed and prices, without the reader -/
def DPA (w : World) (A : Option Addr) (k c : Nat) (qs : List Quad) (G : Option Addr) (m d : Nat) (zs : List Int) (H : Option Addr) (l f : Nat) (ys : List Int) (w' : World) : Prop :=
  Books w' A k qs ∧ Ints w' G m zs ∧ Ints w' H l ys ∧ k ≤ 9 ∧ k ≤ c ∧ c ≤ maxLen ∧ m ≤ 7 ∧ m ≤ d ∧ d ≤ maxLen ∧ l ≤ 7 ∧ l ≤ f ∧ f ≤ maxLen ∧ SmA qs ∧ Below w.heap.size w w'
set_option maxRecDepth 100000 in
theorem drawCheapLoads_ok (A : Option Addr) (n cap : Nat) (zs : List Int) (w : World) (h : Nums .u8 w A n cap zs) (hn : n ≤ 1048576) :
    Calls Tryd.prog 23 #[.slice A n cap] w fun e w' => ∃ B k c qs G m d ys H l f us, e = .returned (.tuple #[.slice B k c, .slice G m d, .slice H l f]) ∧ DPA w B k c qs G m d ys H l f us w' := by
  go_enter Tryd.func23, Tryd.ntmps23
  go_wp2_with (first
    | (go_at_call 48; ((with_reducible refine (opN A n cap zs _ h hn).mono ?_); rintro e w1 ⟨rfl, hr, hb, hlt⟩; clear h))
    | (go_at_call 56; ((with_reducible refine (priced_ok w.heap.size _ _ hr ?_).mono ?_); (omega); rintro e w2 ⟨B, k, c, qs, G, m, d, ys, H, l, f, us, rfl, hB, hI, hJ, k1, k2, k3, m1, m2, m3, l1, l2, l3, q1, q2, q3, hr2, hs⟩; have hw := hb.trans hs.1; have hB2 := Lib.hid (hB _ (Stp.refl _ _)); have hI2 := Lib.hid (hI _ (Stp.refl _ _)); have hJ2 := Lib.hid (hJ _ (Stp.refl _ _)); clear hr hs hb hB hI hJ)))
  refine bodyPost_ret (v := .tuple #[.slice B k c, .slice G m d, .slice H l f]) (by simp [results, Tryd.results23, go_sem]) rfl ?_
  exact ⟨_, _, _, qs, _, _, _, ys, _, _, _, us, rfl, hB2.out, hI2.out, hJ2.out, k1, k2, k3, m1, m2, m3, l1, l2, l3, smA_all q1, hw⟩
set_option maxRecDepth 100000 in
theorem drawCheapCost_ok (A : Option Addr) (n cap : Nat) (zs : List Int) (w : World) (h : Nums .u8 w A n cap zs) (hn : n ≤ 1048576) :
    Calls Tryd.prog 27 #[.slice A n cap] w fun e w' => ∃ B k c qs G m d ys H l f us, e = .returned (.tuple #[.slice B k c, .slice G m d, .slice H l f]) ∧ DPA w B k c qs G m d ys H l f us w' := by
  go_enter Tryd.func27, Tryd.ntmps27
  go_wp2_with (first
    | (go_at_call 48; ((with_reducible refine (opN A n cap zs _ h hn).mono ?_); rintro e w1 ⟨rfl, hr, hb, hlt⟩; clear h))
    | (go_at_call 56; ((with_reducible refine (priced_ok w.heap.size _ _ hr ?_).mono ?_); (omega); rintro e w2 ⟨B, k, c, qs, G, m, d, ys, H, l, f, us, rfl, hB, hI, hJ, k1, k2, k3, m1, m2, m3, l1, l2, l3, q1, q2, q3, hr2, hs⟩; have hw := hb.trans hs.1; have hB2 := Lib.hid (hB _ (Stp.refl _ _)); have hI2 := Lib.hid (hI _ (Stp.refl _ _)); have hJ2 := Lib.hid (hJ _ (Stp.refl _ _)); clear hr hs hb hB hI hJ)))
  refine bodyPost_ret (v := .tuple #[.slice B k c, .slice G m d, .slice H l f]) (by simp [results, Tryd.results27, go_sem]) rfl ?_
  exact ⟨_, _, _, qs, _, _, _, ys, _, _, _, us, rfl, hB2.out, hI2.out, hJ2.out, k1, k2, k3, m1, m2, m3, l1, l2, l3, smA_all q1, hw⟩
end Go.Proofs.YtoiaggjjfahabaaDoor
