/- BookPlaces of the program: what it computes. Condition: the list's length. -/
import Derived.Test.YtoiaggjjfahabaaDoorWSrt
import Derived.Test.YtoiaggjjfahabaaDoorSPlc
namespace Go.Proofs.YtoiaggjjfahabaaDoor
open Go.RowKit
set_option linter.unusedVariables false
/-- seven bools -/
def ub7 (f : Nat → Bool) : Array Value := #[.bool (f 0), .bool (f 1), .bool (f 2), .bool (f 3), .bool (f 4), .bool (f 5), .bool (f 6)]
theorem ub7_at (f : Nat → Bool) (p : Nat) (hp : p < 7) : (ub7 f)[p]? = some (.bool (f p)) := by
  rcases (by omega : p = 0 ∨ p = 1 ∨ p = 2 ∨ p = 3 ∨ p = 4 ∨ p = 5 ∨ p = 6) with rfl | rfl | rfl | rfl | rfl | rfl | rfl <;> rfl
theorem ub7_set (f : Nat → Bool) (k : Nat) (hk : k < 7) : (ub7 f).setIfInBounds k (.bool true) = ub7 (fun p => f p || decide (k = p)) := by
  rcases (by omega : k = 0 ∨ k = 1 ∨ k = 2 ∨ k = 3 ∨ k = 4 ∨ k = 5 ∨ k = 6) with rfl | rfl | rfl | rfl | rfl | rfl | rfl <;> simp [ub7]
set_option maxHeartbeats 1000000 in
theorem indexB_any (u c : Nat) (f : Nat → Bool) (w : World) (h : ∀ p, p < 7 → w.cell? ⟨u, p, none⟩ = some (.bool (f p))) (hf : frTo f 7 < 7) :
    Calls Tryd.prog 75 #[.slice (some ⟨u, 0, none⟩) 7 c, .bool false] w fun e w' => e = .returned (.int .i64 (frTo f 7)) ∧ w = w' := by
  obtain ⟨_, h2, h3⟩ := frTo_spec f 7
  have h4 := h3 hf
  obtain ⟨F, hF⟩ : ∃ F, frTo f 7 = F := ⟨_, rfl⟩
  rw [hF] at hf h2 h4
  have H := Lib.hid h
  have HF := Lib.hid hF
  have H2 := Lib.hid h2
  have H4 := Lib.hid h4
  clear h h2 h3 h4 hF
  go_enter Tryd.func75, Tryd.ntmps75
  go_wp2
  go_loopw [8] (fun i wr => ∃ k : Nat, k ≤ F ∧ i = .int .i64 k ∧ w = wr) (fun i _ => 7 - (intOf i).toNat)
  case atStart => exact ⟨0, by omega, rfl, rfl⟩
  case round =>
    obtain ⟨k, hk, rfl, rfl⟩ := hrel
    have hlt : k < 7 := by omega
    have c0 := H.out k hlt
    have i1 : (0 : Int) ≤ (k : Int) := by omega
    have i2 : (k : Int) < 7 := by omega
    by_cases hkF : k < F
    · have e := H2.out k hkF
      rw [e] at c0
      clear e
      go_wp2
      go_roundw
      case rel => exact ⟨k + 1, hkF, by go_num, by first | trivial | rfl⟩
      case measure => simp [intOf]; omega
    · obtain rfl : k = F := by omega
      rw [H4.out] at c0
      go_wp2
      go_ret
      exact ⟨ret_int (by rw [HF.out]), rfl⟩
theorem rep_fill (k n : Nat) (v : Int) (hk : k < n) : (List.replicate k v ++ List.replicate (n - k) 0).set k v = List.replicate (k + 1) v ++ List.replicate (n - (k + 1)) 0 := by
  obtain ⟨d, rfl⟩ : ∃ d, n = k + 1 + d := ⟨n - (k + 1), by omega⟩
  rw [show k + 1 + d - k = d + 1 by omega, show k + 1 + d - (k + 1) = d by omega, List.replicate_succ, List.replicate_succ' (n := k)]
  rw [List.set_append_right _ _ (by simp)]
  simp
/-- a result []int that reads as xs, a block of new memory -/
def ResB (w : World) (xs : List Int) (e : Ending) (w' : World) : Prop :=
  ∃ A c, e = .returned (.slice A xs.length c) ∧ Ints w' A xs.length xs ∧ (0 < xs.length → ∃ g, A = some ⟨g, 0, none⟩ ∧ w.heap.size ≤ g ∧ Blk w' g 3 (ints xs)) ∧ Below w.heap.size w w'
set_option maxRecDepth 100000 in
set_option maxHeartbeats 8000000 in
theorem BookPlaces_i (A : Option Addr) (n cap : Nat) (qs : List Quad) (w : World) (h : Books w A n qs) (hn : n ≤ 1048576) (hcap : n ≤ cap) :
    Calls Tryd.prog 39 #[.slice A n cap] w (ResB w (plV qs)) := by
  obtain ⟨V, hV⟩ : ∃ V, bsV qs = V := ⟨_, rfl⟩
  have V_i : ∀ w, Books w A n qs → Calls Tryd.prog 72 #[.slice A n cap] w fun e w' => e = .returned (.bool V) ∧ Below w.heap.size w w' := fun w h => by have := BooksValid_i A n cap qs w h hn hcap; rw [hV] at this; exact this
  go_enter Tryd.func39, Tryd.ntmps39
  cases V
  · have he : plV qs = [] := by unfold plV; rw [hV]; rfl
    have HE := Lib.hid he
    clear hV he
    go_wp2_with (go_at_call 72; ((with_reducible refine (V_i _ h).mono ?_); rintro e w1 ⟨rfl, hb⟩))
    go_ret
    rw [HE.out]
    exact ⟨_, _, rfl, ⟨rfl, fun h => absurd h (by simp)⟩, fun h => absurd h (by simp), hb⟩
  · have hlen := h.1
    have h7 := (bs_from hV).1
    rw [hlen] at h7
    have HV := Lib.hid hV
    have HLN := Lib.hid hlen
    have hmk := run_make_row' (P := Tryd.prog) 28 3 (.int .i64 0) 8 Tryd.underlying28 infoInt rfl .i64 .i64 n (by omega) (by omega)
    clear hV hlen
    go_wp2_with (go_at_call 72; ((with_reducible refine (V_i _ h).mono ?_); rintro e w1 ⟨rfl, hb1⟩; clear V_i))
    have hB0 : Blk (w1.alloc (.cells (madeCells #[.int .i64 0] n) 3)) w1.heap.size 3 (ints (List.replicate 0 (-1) ++ List.replicate (n - 0) 0)) := by
      rw [show List.replicate 0 (-1 : Int) ++ List.replicate (n - 0) 0 = List.replicate n 0 by simp, ← ints_made]; exact Blk.new _ _ _
    have hb0 : Below w1.heap.size w1 (w1.alloc (.cells (madeCells #[.int .i64 0] n) 3)) := (Below.refl _ _).alloc (Nat.le_refl _) _
    clear hmk
    go_loopw [18] (fun i wr => ∃ k : Nat, k ≤ n ∧ i = .int .i64 k ∧ Blk wr w1.heap.size 3 (ints (List.replicate k (-1) ++ List.replicate (n - k) 0)) ∧ Below w1.heap.size w1 wr) (fun i _ => n - (intOf i).toNat)
    case atStart => exact ⟨0, by omega, rfl, hB0, hb0⟩
    case round =>
      clear hB0 hb0
      obtain ⟨k, hk, rfl, hB, hb⟩ := hrel
      by_cases hlt : k < n
      · have r0 := hB.int_cell (k := k) (by simp; omega)
        have f0 := hB.frozen k
        have hB2 := hB.int_set k (-1)
        rw [rep_fill k n (-1) hlt] at hB2
        have hb2 : Below w1.heap.size w1 (wr.setCell ⟨w1.heap.size, k, none⟩ (.int .i64 (-1))) := hb.setCell (Nat.le_refl _) _
        have HB2 := Lib.hid hB2
        have HB3 := Lib.hid hb2
        have i1 : (0 : Int) ≤ (k : Int) := by omega
        have i2 : (k : Int) < (n : Int) := by omega
        clear hB hb hB2 hb2
        go_wp2
        go_roundw
        case rel => exact ⟨k + 1, hlt, by go_num, HB2.out, HB3.out⟩
        case measure => simp [intOf]; omega
      · obtain rfl : k = n := by omega
        rw [Nat.sub_self, List.replicate_zero, List.append_nil] at hB
        obtain ⟨g, hg⟩ : ∃ g, w1.heap.size = g := ⟨_, rfl⟩
        have hg1 : w.heap.size ≤ g := by have := hb1.size; omega
        have hbr := bt hb1 hb
        rw [hg] at hB ⊢
        clear hb hb1 hg
        go_upto_region 10 with (go_at_call 73; ((with_reducible refine (bookOrder_any A k cap qs _ (h.below hbr) HV.out).mono ?_); rintro e w2 ⟨go, rfl, hgo, hR, hb⟩))
        have hB2 := hB.below hb hB.lt
        have hgg : g < go := Nat.lt_of_lt_of_le hB.lt hgo
        have hb2 := bt hbr hb
        have HB2 := Lib.hid hB2
        have HR2 := Lib.hid hR
        have HW2 := Lib.hid hb2
        clear hB2 hR hb2 hbr hB hb hgo
        obtain ⟨n, rfl⟩ : ∃ n, n = k := ⟨k, rfl⟩
        go_wp2
        go_loopw [28] (fun i wr => ∃ k : Nat, k ≤ n ∧ i = .int .i64 k ∧ Blk wr g 3 (ints (plTo qs (ordF qs) k)) ∧ Rw wr go n (nI (ordF qs)) ∧ Below w.heap.size w wr) (fun i _ => n - (intOf i).toNat)
        case atStart => exact ⟨0, by omega, rfl, by unfold plTo; rw [HLN.out]; exact HB2.out, HR2.out, HW2.out⟩
        case round =>
          clear HB2 HR2 HW2
          obtain ⟨k, hk, rfl, hB, hR, hb⟩ := hrel
          by_cases hlk : k < n
          · obtain ⟨p1, p2⟩ := plc_next HV.out (show k < qs.length by rw [HLN.out]; exact hlk)
            obtain ⟨f1, f2, f3⟩ := free_few (show qs.length ≤ 7 by rw [HLN.out]; exact h7) (pl_len qs (ordF qs) k) p1 p2
            have hbd := fun j (hj : j < n) => plc_bd HV.out (m := k) (j := j) (by rw [HLN.out]; omega) (show j < qs.length by rw [HLN.out]; exact hj)
            have hs := show plTo qs (ordF qs) (k + 1) = (plTo qs (ordF qs) k).set ((ordF qs).getD k 0) (freeP qs (plTo qs (ordF qs) k) ((ordF qs).getD k 0) : Int) from rfl
            have hfp := show freeP qs (plTo qs (ordF qs) k) ((ordF qs).getD k 0) = frTo (fun p => usB qs (plTo qs (ordF qs) k) ((ordF qs).getD k 0) p qs.length) 7 from rfl
            have hni := nI_at (ordF qs) (k := k) (by rw [ord_len HV.out, HLN.out]; exact hlk)
            have hoc := hR.cell hlk
            rw [hni] at hoc
            have hpl0 := pl_len qs (ordF qs) k
            obtain ⟨x, hx⟩ : ∃ x, (ordF qs).getD k 0 = x := ⟨_, rfl⟩
            obtain ⟨pl, hpl⟩ : ∃ pl, plTo qs (ordF qs) k = pl := ⟨_, rfl⟩
            rw [hx] at p1 hoc hs hfp
            rw [hpl] at hs hB hbd hfp hpl0
            rw [hx, hpl, HLN.out] at f1
            rw [HLN.out] at p1 hfp hpl0
            obtain ⟨nb, no, rfl, hnl, hnc⟩ := h.2 (by omega)
            obtain ⟨x0, x1, x2, x3⟩ := hnc x p1
            obtain ⟨qx, hqx⟩ : ∃ q, qs.getD x q0 = q := ⟨_, rfl⟩
            rw [hqx] at x0 x1 x2 x3
            obtain ⟨f, hf⟩ : ∃ f, freeP qs pl x = f := ⟨_, rfl⟩
            rw [hf] at f1 hs hfp
            have hpc := fun j (hj : j < n) => hB.int_cell (k := j) (by omega)
            have X0 := Lib.hid x0
            have X1 := Lib.hid x1
            have X2 := Lib.hid x2
            have X3 := Lib.hid x3
            have HN := Lib.hid hnc
            have HS := Lib.hid hs
            have HQX := Lib.hid hqx
            have HBD := Lib.hid hbd
            have HFP := Lib.hid hfp
            have HPC := Lib.hid hpc
            have HPL := Lib.hid hpl0
            have hgl := hB.lt
            have hgol := hR.lt
            have HB := Lib.hid hB
            have HR := Lib.hid hR
            have HW := Lib.hid hb
            have i1 : (0 : Int) ≤ (k : Int) := by omega
            have i2 : (k : Int) < (n : Int) := by omega
            have i5 : (0 : Int) ≤ (x : Int) := by omega
            have i6 : (x : Int) < (n : Int) := by omega
            have hsz := hb.size
            clear x0 x1 x2 x3 hnc hs hqx hbd hni hx hpl p2 hf f2 f3 hfp hpc hB hR hb hpl0
            obtain ⟨wo, rfl⟩ : ∃ wo : World, wo = wr := ⟨_, rfl⟩
            go_wp2
            clear hoc i1 i2
            have hU0 : Blk (wo.alloc (.cells (ub7 fun p => usB qs pl x p 0) 89)) wo.heap.size 89 (ub7 fun p => usB qs pl x p 0) := Blk.new _ _ _
            have hq0 : Below wo.heap.size wo (wo.alloc (.cells (ub7 fun p => usB qs pl x p 0) 89)) := (Below.refl _ _).alloc (Nat.le_refl _) _
            go_loopw [34] (fun i wq => ∃ j : Nat, j ≤ n ∧ i = .int .i64 j ∧ Blk wq wo.heap.size 89 (ub7 fun p => usB qs pl x p j) ∧ Below wo.heap.size wo wq) (fun i _ => n - (intOf i).toNat)
            case atStart => exact ⟨0, by omega, rfl, hU0, hq0⟩
            case round =>
              clear hU0 hq0
              obtain ⟨j, hj, rfl, hU, hq⟩ := hrel
              by_cases hlj : j < n
              · obtain ⟨r0, r1, r2, r3⟩ := HN.out j hlj
                have hus := fun p => show usB qs pl x p (j + 1) = (usB qs pl x p j || (decide (pl.getD j 0 = (p : Int)) && ovq (qs.getD x q0) (qs.getD j q0))) from rfl
                rw [HQX.out] at hus
                have hb2 := HW.out.trans (hq.mono hsz)
                have hzc := (hq.cell (p := ⟨g, j, none⟩) hgl).trans (HPC.out j hlj)
                have hzb := HBD.out j hlj
                obtain ⟨z, hz⟩ : ∃ z, pl.getD j 0 = z := ⟨_, rfl⟩
                obtain ⟨qj, hqj⟩ : ∃ q, qs.getD j q0 = q := ⟨_, rfl⟩
                rw [hz] at hzc hus hzb
                rw [hqj] at r0 r1 r2 r3 hus
                have s0 := (hb2.cell (p := ⟨nb, no + j * 4, none⟩) hnl).trans r0
                have s1 := (hb2.cell (p := ⟨nb, no + j * 4 + 1, none⟩) hnl).trans r1
                have s2 := (hb2.cell (p := ⟨nb, no + j * 4 + 2, none⟩) hnl).trans r2
                have s3 := (hb2.cell (p := ⟨nb, no + j * 4 + 3, none⟩) hnl).trans r3
                have y0 := (hb2.cell (p := ⟨nb, no + x * 4, none⟩) hnl).trans X0.out
                have y1 := (hb2.cell (p := ⟨nb, no + x * 4 + 1, none⟩) hnl).trans X1.out
                have y2 := (hb2.cell (p := ⟨nb, no + x * 4 + 2, none⟩) hnl).trans X2.out
                have y3 := (hb2.cell (p := ⟨nb, no + x * 4 + 3, none⟩) hnl).trans X3.out
                have i1 : (0 : Int) ≤ (j : Int) := by omega
                have i2 : (j : Int) < (n : Int) := by omega
                have HUS := Lib.hid hus
                have HQ := Lib.hid hq
                have HU := Lib.hid hU
                have hul := hU.lt
                have hz1 : nb < wr.heap.size := by have := hb2.size; omega
                have hz2 : g < wr.heap.size := by have := hq.size; omega
                obtain ⟨a1, b1, c1, d1⟩ := qx
                obtain ⟨a2, b2, c2, d2⟩ := qj
                clear r0 r1 r2 r3 hus hz hqj hU hq hb2
                go_upto_region 16 with fail
                have hwB : Below wr.heap.size wr (wr.alloc (.cells #[.int .i64 a2, .int .i64 b2, .int .i64 c2, .int .i64 d2] 61)) := (Below.refl _ _).alloc (Nat.le_refl _) _
                have hBx := Blk.new wr 61 #[.int .i64 a2, .int .i64 b2, .int .i64 c2, .int .i64 d2]
                obtain ⟨W, hW⟩ : ∃ W, wr.alloc (.cells #[.int .i64 a2, .int .i64 b2, .int .i64 c2, .int .i64 d2] 61) = W := ⟨_, rfl⟩
                obtain ⟨bx, hbx⟩ : ∃ bx, wr.heap.size = bx := ⟨_, rfl⟩
                rw [hW] at hwB hBx ⊢
                rw [hbx] at hBx hwB hz1 hz2 hul ⊢
                have t0 := hBx.cell 0
                have t1 := hBx.cell 1
                have t2 := hBx.cell 2
                have t3 := hBx.cell 3
                simp only [List.getElem?_toArray, List.getElem?_cons_zero, List.getElem?_cons_succ] at t0 t1 t2 t3
                have tl := hBx.lt
                replace y0 := (hwB.cell (p := ⟨nb, no + x * 4, none⟩) hz1).trans y0
                replace y1 := (hwB.cell (p := ⟨nb, no + x * 4 + 1, none⟩) hz1).trans y1
                replace y2 := (hwB.cell (p := ⟨nb, no + x * 4 + 2, none⟩) hz1).trans y2
                replace y3 := (hwB.cell (p := ⟨nb, no + x * 4 + 3, none⟩) hz1).trans y3
                replace hzc := (hwB.cell (p := ⟨g, j, none⟩) hz2).trans hzc
                have HQ2 := Lib.hid (HQ.out.trans (hwB.mono (by have := HQ.out.size; omega)))
                have HU2 := Lib.hid (HU.out.below hwB hul)
                have hz3 : nb < W.heap.size := by omega
                have hz4 : g < W.heap.size := by omega
                have hz5 : wo.heap.size < W.heap.size := by omega
                clear hW hbx hwB hBx hz1 hz2 hul s0 s1 s2 s3 HQ HU
                by_cases hzn : 0 ≤ z
                · obtain ⟨zn, rfl⟩ := Int.eq_ofNat_of_zero_le hzn
                  have tb : decide ((0 : Int) ≤ (zn : Int)) = true := by simp
                  have hzn6 : zn < 7 := by omega
                  have O0 := fun w => Overlap_i a1 b1 c1 d1 a2 b2 c2 d2 w
                  have hus := HUS.out
                  have e0 : ovq ⟨a1, b1, c1, d1⟩ ⟨a2, b2, c2, d2⟩ = ovl b1 c1 b2 c2 := rfl
                  obtain ⟨ov, hov⟩ : ∃ o, ovl b1 c1 b2 c2 = o := ⟨_, rfl⟩
                  rw [hov] at O0 e0
                  rw [e0] at hus
                  have HU9 := Lib.hid hus
                  clear hus e0 hov HUS hzn
                  go_region_held3 (fun w' => Below (W.heap.size) (W) w' ∧ ∀ k o, k < W.heap.size → w'.cell? ⟨k, o, none⟩ = World.cell? (W) ⟨k, o, none⟩) (first | assumption | exact kp_start | (refine kp_step ?_ hb ?_; assumption; (first | omega | (simp; done) | (simp; omega))) | (refine kp_drew ?_; assumption) | (refine kp_drew (kp_of hb ?_); (first | omega | (simp; done) | (simp; omega)))) (first | (go_at_call 42; (with_reducible refine (O0 _).mono ?_); rintro e w' ⟨rfl, hb⟩))
                  all_goals
                    cases ov
                    · have e1 : Hid ((fun p => usB qs pl x p (j + 1)) = fun p => usB qs pl x p j) := by
                        show _ = _
                        funext p
                        rw [HU9.out p]; simp
                      go_wp2_with fail
                      go_roundw
                      case rel => exact ⟨j + 1, hlj, by go_num, by rw [e1.out]; exact HU2.out.below (B := W.heap.size) (by (refine kp_end (by assumption) ?_ (by first | omega | (simp; done) | (simp; omega)); (repeat (first | exact Below.refl _ _ | assumption | refine Below.alloc ?_ (by first | omega | (simp; done) | (simp; omega)) _ | refine Below.drew ?_ | refine bdN ?_ _ | refine Below.setCell ?_ (by first | omega | (simp; done) | (simp; omega)) _)))) hz5, by have hq9 := HQ2.out; have := hq9.size; (refine kp_end (by assumption) ?_ (by first | omega | (simp; done) | (simp; omega)); (repeat (first | exact Below.refl _ _ | assumption | refine Below.alloc ?_ (by first | omega | (simp; done) | (simp; omega)) _ | refine Below.drew ?_ | refine bdN ?_ _ | refine Below.setCell ?_ (by first | omega | (simp; done) | (simp; omega)) _)))⟩
                      case measure => simp [intOf]; omega
                    · have e1 : Hid ((fun p => usB qs pl x p (j + 1)) = fun p => usB qs pl x p j || decide (zn = p)) := by
                        show _ = _
                        funext p
                        rw [HU9.out p, Bool.and_true]
                        congr 1
                        rw [decide_eq_decide]; omega
                      have hUw := HU2.out.below (B := W.heap.size) (by (refine kp_end (by assumption) ?_ (by first | omega | (simp; done) | (simp; omega)); (repeat (first | exact Below.refl _ _ | assumption | refine Below.alloc ?_ (by first | omega | (simp; done) | (simp; omega)) _ | refine Below.drew ?_ | refine bdN ?_ _ | refine Below.setCell ?_ (by first | omega | (simp; done) | (simp; omega)) _)))) hz5
                      have hQw : Below wo.heap.size wo w' := by have hq9 := HQ2.out; have := hq9.size; (refine kp_end (by assumption) ?_ (by first | omega | (simp; done) | (simp; omega)); (repeat (first | exact Below.refl _ _ | assumption | refine Below.alloc ?_ (by first | omega | (simp; done) | (simp; omega)) _ | refine Below.drew ?_ | refine bdN ?_ _ | refine Below.setCell ?_ (by first | omega | (simp; done) | (simp; omega)) _)))
                      have hs9 := hUw.set_ zn (.bool true)
                      rw [ub7_set _ zn hzn6] at hs9
                      have cu := (hUw.cell zn).trans (ub7_at _ zn hzn6)
                      have cW := (HU2.out.cell zn).trans (ub7_at _ zn hzn6)
                      have fu := hUw.frozen zn
                      have HS9 := Lib.hid hs9
                      have HQW := Lib.hid hQw
                      have i8 : (0 : Int) ≤ (zn : Int) := by omega
                      have i9 : (zn : Int) < 7 := by omega
                      clear hs9 hUw hQw
                      go_wp2_with fail
                      go_roundw
                      case rel => exact ⟨j + 1, hlj, by go_num, by rw [e1.out]; exact HS9.out, HQW.out.setCell (Nat.le_refl _) _⟩
                      case measure => simp [intOf]; omega
                · have tb : decide ((0 : Int) ≤ z) = false := by simpa using hzn
                  have e1 : Hid ((fun p => usB qs pl x p (j + 1)) = fun p => usB qs pl x p j) := by
                    show _ = _
                    funext p
                    rw [HUS.out p, decide_eq_false (by omega)]; simp
                  clear HUS hzn
                  go_quiet (fail)
                  all_goals
                    go_wp2_with fail
                    go_roundw
                    case rel => exact ⟨j + 1, hlj, by go_num, by rw [e1.out]; exact HU2.out, HQ2.out.trans (by (repeat (first | exact Below.refl _ _ | assumption | refine Below.alloc ?_ (by first | omega | (simp; done) | (simp; omega)) _ | refine Below.drew ?_ | refine bdN ?_ _ | refine Below.setCell ?_ (by first | omega | (simp; done) | (simp; omega)) _)))⟩
                    case measure => simp [intOf]; omega
              · obtain rfl : j = n := by omega
                have hb2 := HW.out.trans (hq.mono hsz)
                have hBw := HB.out.below hq hgl
                have hRw := HR.out.below hq hgol
                have I0 := indexB_any wo.heap.size 7 (fun p => usB qs pl x p j) wr (fun p hp => (hU.cell p).trans (ub7_at _ p hp)) (by rw [← HFP.out]; omega)
                rw [← HFP.out] at I0
                have c1 := hBw.int_cell (k := x) (by rw [HPL.out]; exact p1)
                have g1 := hBw.frozen x
                have HBW := Lib.hid (hBw.int_set x (f : Int))
                have HRW := Lib.hid hRw
                have HB2 := Lib.hid hb2
                clear hb2 hBw hRw hU hq
                go_wp2_with (go_at_call 75; ((with_reducible refine I0.mono ?_); rintro e w' ⟨rfl, rfl⟩; clear I0))
                go_roundw
                case rel => exact ⟨k + 1, hlk, by go_num, by rw [HS.out]; exact HBW.out, HRW.out.far (by show go ≠ g; omega) _, HB2.out.setCell hg1 _⟩
                case measure => simp [intOf]; omega
          · obtain rfl : k = n := by omega
            have e : Hid (plV qs = plTo qs (ordF qs) k) := by show _ = _; unfold plV; rw [if_pos HV.out, HLN.out]
            have hl : (plTo qs (ordF qs) k).length = k := by rw [pl_len, HLN.out]
            have HL := Lib.hid hl
            clear hl
            go_wp2
            go_ret
            rw [e.out]
            exact ⟨some ⟨g, 0, none⟩, k, by rw [HL.out]; rfl, by rw [HL.out]; exact Ints.of_blk' hB HL.out, fun _ => ⟨g, rfl, hg1, hB⟩, hb⟩
end Go.Proofs.YtoiaggjjfahabaaDoor
