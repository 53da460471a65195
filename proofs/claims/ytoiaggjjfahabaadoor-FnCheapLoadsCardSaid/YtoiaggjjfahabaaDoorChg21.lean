/- CheapLoads of the program at every argument; l4Some of the reference. Conditions: short lists. -/
import Derived.Test.YtoiaggjjfahabaaDoorChg20
import Derived.Test.YtoiaggjjfahabaaDoorChg8
import Derived.Test.YtoiaggjjfahabaaDoorGrow
import Derived.Test.YtoiaggjjfahabaaDoorRws
import Derived.Test.YtoiaggjjfahabaaDoorLS
namespace Go.Proofs.YtoiaggjjfahabaaDoor
open Go.RowKit
set_option linter.unusedVariables false
theorem CLr.nil (w w' : World) (hb : Below w.heap.size w w') : CLr w [] (.returned (.slice none 0 0)) w' := ⟨none, 0, rfl, ⟨rfl, fun h => absurd h (by simp)⟩, fun _ => ⟨rfl, rfl⟩, hb⟩
set_option maxHeartbeats 1000000 in
theorem CheapLoads_i (A C Q : Option Addr) (n c1 m c2 k c3 : Nat) (qs : List Quad) (cs ps : List Int) (w : World) (h : Books w A n qs) (hC : Ints w C m cs) (hQ : Ints w Q k ps) (hn : n ≤ 1048576) (hm : m ≤ 1048576) (hk : k ≤ 1048576) :
    Calls Tryd.prog 24 #[.slice A n c1, .slice C m c2, .slice Q k c3] w (CLr w (clO qs cs ps)) := by
  obtain ⟨V1, hV1⟩ : ∃ V, nsV qs = V := ⟨_, rfl⟩
  obtain ⟨V2, hV2⟩ : ∃ V, fvV cs = V := ⟨_, rfl⟩
  obtain ⟨V3, hV3⟩ : ∃ V, fvV ps = V := ⟨_, rfl⟩
  have K1 : ∀ w, Books w A n qs → Calls Tryd.prog 57 #[.slice A n c1] w fun e w' => e = .returned (.bool V1) ∧ Below w.heap.size w w' := fun w h => by have := NeedsValid_i A n c1 qs w h hn; rw [hV1] at this; exact this
  have K2 : ∀ w, Ints w C m cs → Calls Tryd.prog 58 #[.slice C m c2] w fun e w' => e = .returned (.bool V2) ∧ Below w.heap.size w w' := fun w h => by have := FeedValid_i C m c2 cs w h hm; rw [hV2] at this; exact this
  have K3 : ∀ w, Ints w Q k ps → Calls Tryd.prog 58 #[.slice Q k c3] w fun e w' => e = .returned (.bool V3) ∧ Below w.heap.size w w' := fun w h => by have := FeedValid_i Q k c3 ps w h hk; rw [hV3] at this; exact this
  have go : ¬ (V1 = true ∧ V2 = true ∧ V3 = true) → Calls Tryd.prog 24 #[.slice A n c1, .slice C m c2, .slice Q k c3] w (CLr w []) := by
    intro hno
    clear hV1 hV2 hV3
    cases V1
    · clear hno
      go_enter Tryd.func24, Tryd.ntmps24
      go_wp2_with (go_at_call 57; ((with_reducible refine (K1 _ h).mono ?_); rintro e w1 ⟨rfl, hb1⟩))
      all_goals (go_ret; exact CLr.nil _ _ hb1)
    · cases V2
      · clear hno
        go_enter Tryd.func24, Tryd.ntmps24
        go_wp2_with (first
          | (go_at_call 57; ((with_reducible refine (K1 _ h).mono ?_); rintro e w1 ⟨rfl, hb1⟩))
          | (go_at_call 58; ((with_reducible refine (K2 _ (hC.below hb1)).mono ?_); rintro e w2 ⟨rfl, hb2⟩)))
        all_goals (go_ret; exact CLr.nil _ _ (bt hb1 hb2))
      · cases V3
        · clear hno
          go_enter Tryd.func24, Tryd.ntmps24
          go_wp2_with (first
            | (go_at_call 57; ((with_reducible refine (K1 _ h).mono ?_); rintro e w1 ⟨rfl, hb1⟩))
            | (go_at_call 58; ((with_reducible refine (K2 _ (hC.below hb1)).mono ?_); rintro e w2 ⟨rfl, hb2⟩; have hb3 := bt hb1 hb2; clear K2))
            | (go_at_call 58; ((with_reducible refine (K3 _ (hQ.below hb3)).mono ?_); rintro e w3 ⟨rfl, hb4⟩)))
          all_goals (go_ret; exact CLr.nil _ _ (bt hb3 hb4))
        · exact absurd ⟨rfl, rfl, rfl⟩ hno
  by_cases hv : nsV qs = true ∧ fvV cs = true ∧ fvV ps = true
  · obtain ⟨v1, v2, v3⟩ := hv
    rw [clO_yes v1 v2 v3]
    obtain rfl : m = 6 := by rw [← hC.1]; exact (fv_at v2).1
    obtain rfl : k = 6 := by rw [← hQ.1]; exact (fv_at v3).1
    exact CheapLoads_i_yes A C Q n c1 c2 c3 qs cs ps w h hC hQ hn v1 v2 v3
  · rw [clO_no hv]
    exact go (by rw [← hV1, ← hV2, ← hV3]; exact hv)
theorem take_next (zs : List Int) {k : Nat} (h : k < zs.length) : zs.take (k + 1) = zs.take k ++ [zs.getD k 0] := by
  rw [List.take_succ_eq_append_getElem h, List.getD_eq_getElem?_getD, List.getElem?_eq_getElem h]; rfl
theorem rem_shr (s k : Nat) : (s.testBit k = true → Int.tmod ((s : Int) / 2 ^ k) 2 = 1 ∧ ((s : Int) / 2 ^ k) % 2 = 1) ∧ (s.testBit k = false → Int.tmod ((s : Int) / 2 ^ k) 2 = 0 ∧ ((s : Int) / 2 ^ k) % 2 = 0) := by
  obtain ⟨h1, h2, h3, h4⟩ := test_shr s k
  constructor
  · intro h; rw [h] at h1 h3; exact ⟨by simpa using h1, by simpa using h3⟩
  · intro h; rw [h] at h2 h4; exact ⟨by simpa using h2, by simpa using h4⟩
set_option maxRecDepth 100000 in
set_option maxHeartbeats 2000000 in
theorem l4Some_s (A : Option Addr) (cap s : Nat) (cs : List Int) (w : World) (h : Ints w A 6 cs) (hb : ∀ k, 0 ≤ cs.getD k 0 ∧ cs.getD k 0 ≤ 30) :
    Calls Tryd.prog 62 #[.slice A 6 cap, .int .i64 s] w fun e w' => ∃ g c, e = .returned (.slice (some ⟨g, 0, none⟩) 6 c) ∧ Ints w' (some ⟨g, 0, none⟩) 6 (rstr cs s) ∧ Below w.heap.size w w' := by
  obtain ⟨i0, hi, ia, ib, ic⟩ := info_parts infoIn
  have hcl := Lib.hid h.1
  have HB := Lib.hid hb
  clear hb
  obtain ⟨cb, co, rfl⟩ := h.addr (by omega)
  go_enter Tryd.func62, Tryd.ntmps62
  go_wp2
  have T0 : (w.alloc (.cells #[] 3)).ownsRow w.heap.size 3 1 (.slice (some ⟨w.heap.size, 0, none⟩) 0 0) 0 (((rstr cs s).take 0).map (Value.int .i64)) := nw_new0 w w.heap.size 3 1 (Nat.le_refl _)
  go_loopw [5, 6] (fun v i wr => ∃ (k g c : Nat), i = .int .i64 k ∧ k ≤ 6 ∧ v = .slice (some ⟨g, 0, none⟩) k c ∧ wr.ownsRow w.heap.size 3 1 v k (((rstr cs s).take k).map (Value.int .i64)) ∧ Below w.heap.size w wr) (fun _ i _ => 6 - (intOf i).toNat)
  case atStart => exact ⟨0, _, _, rfl, by omega, rfl, T0, (Below.refl _ _).alloc (Nat.le_refl _) _⟩
  case round =>
    clear T0
    obtain ⟨k, g, c, rfl, hk, rfl, T, hw⟩ := hrel
    by_cases hlk : k < 6
    · have hx := ((h.below hw).cellx k hlk).1
      have hxl := ((h.below hw).cellx k hlk).2
      have hbd := HB.out k
      have hx0 := (h.cellx k hlk).1
      have hxw := (h.cellx k hlk).2
      have hrs := rstr_at cs s k
      have htk := take_next (rstr cs s) (k := k) (by rw [rstr_len]; exact hlk)
      obtain ⟨y, hy⟩ : ∃ y, cs.getD k 0 = y := ⟨_, rfl⟩
      rw [hy] at hx hbd hrs hx0
      have HX0 := Lib.hid hx0
      clear hx0
      have hsz := hw.size
      have rs := rem_shr s k
      have i1 : (0 : Int) ≤ (k : Int) := by omega
      have i2 : (k : Int) < (6 : Int) := by omega
      have HT := Lib.hid T
      have HW := Lib.hid hw
      have HTK := Lib.hid htk
      clear T hw htk hy
      cases hbit : s.testBit k
      · obtain ⟨r1, r2⟩ := rs.2 hbit
        rw [hbit, if_neg (by simp)] at hrs
        have u1 : IntKind.i64.wrap (y * 0) = 0 := by rw [Int.mul_zero]; rfl
        have HRS := Lib.hid hrs
        have HTD : Hid (wr.drew.ownsRow w.heap.size 3 1 (.slice (some ⟨g, 0, none⟩) k c) k (((rstr cs s).take k).map (Value.int .i64))) := HT.out
        clear rs hbit hrs
        go_upto_region 5 with fail
        go_region_held3 (fun w' => w'.cell? ⟨cb, co + k, none⟩ = some (.int .i64 y)) (first | exact hx | exact nw_keep hxl hx _ | assumption | exact (hb1.cell (p := ⟨cb, co + k, none⟩) hxw).trans HX0.out) (first
          | (refine step_append_fresh (by rfl) (.tmp 14) (.tmp 24) 28 rfl w.heap.size 3 i0 (.int .i64 0) 1 8 Tryd.underlying28 hi ia ib ic rfl (by decide) _ _ _ (by rfl) (HTD.out.alloc _) ⟨wr.drew.heap.size, 0, none⟩ 1 1 ([(0 : Int)].map (Value.int .i64)) (by rfl) ?_ ?_ ?_ ?_ ?_ ?_ ?_; (rfl); (exact news_one wr.drew _ ((0 : Int))); (exact one_ints [(0 : Int)]); (unfold maxLen; omega); (omega); (simp; omega); (intro v1 w1 hown1 hgrow _; have hb1 := (HW.out.drew.alloc (by simpa using hsz) _).grown hgrow (by simp; omega) (fun q hq => (HTD.out.lt q hq).1))))
        all_goals
          obtain ⟨g1, c1, rfl, _, _, _, _⟩ := own_at hown1 (by omega)
          have ho : Hid (w1.ownsRow w.heap.size 3 1 (.slice (some ⟨g1, 0, none⟩) (k + 1) c1) (k + 1) (((rstr cs s).take (k + 1)).map (Value.int .i64))) := by
            show World.ownsRow _ _ _ _ _ _ _
            rw [HTK.out, HRS.out, List.map_append]; exact hown1
          clear hown1 hgrow
          go_wp2
          go_roundw
          case rel => exact ⟨k + 1, g1, c1, by go_num, by omega, rfl, ho.out, hb1⟩
          case measure => simp [intOf]; omega
      · obtain ⟨r1, r2⟩ := rs.1 hbit
        rw [hbit, if_pos ⟨hlk, rfl⟩] at hrs
        have u1 : IntKind.i64.wrap (y * 1) = y := by rw [Int.mul_one]; exact IntWalk.i64_in _ (by omega)
        have u2 : IntKind.i64.wrap y = y := IntWalk.i64_in _ (by omega)
        have HRS := Lib.hid hrs
        have HTD : Hid (wr.drew.ownsRow w.heap.size 3 1 (.slice (some ⟨g, 0, none⟩) k c) k (((rstr cs s).take k).map (Value.int .i64))) := HT.out
        clear rs hbit hrs
        go_upto_region 5 with fail
        go_region_held3 (fun w' => w'.cell? ⟨cb, co + k, none⟩ = some (.int .i64 y)) (first | exact hx | exact nw_keep hxl hx _ | assumption | exact (hb1.cell (p := ⟨cb, co + k, none⟩) hxw).trans HX0.out) (first
          | (refine step_append_fresh (by rfl) (.tmp 14) (.tmp 24) 28 rfl w.heap.size 3 i0 (.int .i64 0) 1 8 Tryd.underlying28 hi ia ib ic rfl (by decide) _ _ _ (by rfl) (HTD.out.alloc _) ⟨wr.drew.heap.size, 0, none⟩ 1 1 ([y].map (Value.int .i64)) (by rfl) ?_ ?_ ?_ ?_ ?_ ?_ ?_; (rfl); (exact news_one wr.drew _ (y)); (exact one_ints [y]); (unfold maxLen; omega); (omega); (simp; omega); (intro v1 w1 hown1 hgrow _; have hb1 := (HW.out.drew.alloc (by simpa using hsz) _).grown hgrow (by simp; omega) (fun q hq => (HTD.out.lt q hq).1))))
        all_goals
          obtain ⟨g1, c1, rfl, _, _, _, _⟩ := own_at hown1 (by omega)
          have ho : Hid (w1.ownsRow w.heap.size 3 1 (.slice (some ⟨g1, 0, none⟩) (k + 1) c1) (k + 1) (((rstr cs s).take (k + 1)).map (Value.int .i64))) := by
            show World.ownsRow _ _ _ _ _ _ _
            rw [HTK.out, HRS.out, List.map_append]; exact hown1
          clear hown1 hgrow
          go_wp2
          go_roundw
          case rel => exact ⟨k + 1, g1, c1, by go_num, by omega, rfl, ho.out, hb1⟩
          case measure => simp [intOf]; omega
    · obtain rfl : k = 6 := by omega
      rw [List.take_of_length_le (by rw [rstr_len]; exact Nat.le_refl _)] at T
      have hR := (Rw.of_own T (rstr_len cs s)).1
      go_wp2
      go_ret
      exact ⟨g, c, rfl, hR.ints, hw⟩
end Go.Proofs.YtoiaggjjfahabaaDoor
