/- The walk of laws.FnPlanValid. No condition. -/
import Derived.Test.YtoombdhchikbmaaDoorLPV1
import Derived.Test.YtoombdhchikbmaaDoorAliveL
import Derived.Test.YtoombdhchikbmaaDoorChg10
import Derived.Deep.RegionLaw
namespace Go.Proofs.YtoombdhchikbmaaDoor
open Go.RowKit
set_option linter.unusedVariables false
set_option maxRecDepth 100000 in
set_option maxHeartbeats 8000000 in
theorem FnPlanValid_walk (w : World) (A : Option Addr) (n cap : Nat) (zs : List Int) (h : Nums .u8 w A n cap zs) :
    Calls Tryd.prog 12 #[.slice A n cap] w fun e w' => e = .returned (.bool true) ∧ Below w.heap.size w w' := by
  obtain ⟨i0, hi, ia, ib, ic⟩ := info_parts infoI
  obtain ⟨iR, hi1, ia1, ib1, ic1⟩ := info_parts infoRw
  go_enter Tryd.func12, Tryd.ntmps12
  by_cases hn : 1048576 < n
  · have hnb : decide (1048576 < n) = true := by simpa using hn
    clear h
    go_wp2
    go_ret
    exact ⟨rfl, by (repeat (first | exact Below.refl _ _ | assumption | refine Below.alloc ?_ (by first | omega | (simp; done) | (simp; omega)) _ | refine Below.drew ?_ | refine bdN ?_ _ | refine Below.setCell ?_ (by first | omega | (simp; done) | (simp; omega)) _))⟩
  · have hnb : decide (1048576 < n) = false := by simpa using hn
    go_upto_region 4 with (go_at_call 47; refine (drawPlanValid_ok A n cap zs _ h (by omega)).mono ?_; rintro E w1 ⟨G, k, c, qs, M, m, d, ys, P, np, cp, rows, rfl, hA, hC, hT, k9, kc, cm, m7, md, dm, n9, nc, ncm, h6, hmid, sa, hw⟩; clear h)
    clear hn hnb
    have hkl := hA.1
    have hpl := hT.1
    have hsml : ∀ i, Sml (rows.getD i []) := fun i j => by have := hmid i j; omega
    have hl6 : ∀ i, (rows.getD i []).length ≤ 1000 := fun i => by
      rcases Nat.lt_or_ge i np with g | g
      · rw [h6 i g]; omega
      · rw [getD_hi rows [] i (by omega)]; simp
    rcases Bool.eq_false_or_eq_true (pvV qs ys rows) with hV | hV
    rotate_left
    · have V_i : ∀ w, Books w G k qs → Ints w M m ys → Tabs w P np rows → Calls Tryd.prog 42 #[.slice G k c, .slice M m d, .slice P np cp] w fun E w' => E = .returned (.bool false) ∧ Below w.heap.size w w' := fun w h1 h2 h3 => by have := PlanValid_i G M P k c m d np cp qs ys rows w h1 h2 h3 (by omega) (by omega) (by omega) hsml hl6; rw [hV] at this; exact this
      have V_s : ∀ w, Books w G k qs → Ints w M m ys → Tabs w P np rows → Calls Tryd.prog 48 #[.slice G k c, .slice M m d, .slice P np cp] w fun E w' => E = .returned (.bool false) ∧ Below w.heap.size w w' := fun w h1 h2 h3 => by have := PlanValid_s G M P k c m d np cp qs ys rows w h1 h2 h3 (by omega) (by omega) (by omega) hsml hl6 sa; rw [hV] at this; exact this
      go_upto_region 7 with (first
        | (go_at_call 42; ((with_reducible refine (V_i _ hA hC hT).mono ?_); rintro E wk ⟨rfl, hb⟩; replace hA := hA.below hb; replace hC := hC.below hb; replace hT := hT.below hb; replace hw := bt hw hb; clear hb))
        | (go_at_call 48; ((with_reducible refine (V_s _ hA hC hT).mono ?_); rintro E wk ⟨rfl, hb⟩; replace hA := hA.below hb; replace hC := hC.below hb; replace hT := hT.below hb; replace hw := bt hw hb; clear hb)))
      clear V_i V_s
      clear hV hsml hl6 h6 hmid
      go_wp2_with (go_at_call 20; ((with_reducible refine (alive_ok _).mono ?_); rintro E wk ⟨rfl, hb⟩; replace hw := bt hw hb; clear hb))
      go_ret
      exact ⟨rfl, hw⟩
    · have V_i : ∀ w, Books w G k qs → Ints w M m ys → Tabs w P np rows → Calls Tryd.prog 42 #[.slice G k c, .slice M m d, .slice P np cp] w fun E w' => E = .returned (.bool true) ∧ Below w.heap.size w w' := fun w h1 h2 h3 => by have := PlanValid_i G M P k c m d np cp qs ys rows w h1 h2 h3 (by omega) (by omega) (by omega) hsml hl6; rw [hV] at this; exact this
      have V_s : ∀ w, Books w G k qs → Ints w M m ys → Tabs w P np rows → Calls Tryd.prog 48 #[.slice G k c, .slice M m d, .slice P np cp] w fun E w' => E = .returned (.bool true) ∧ Below w.heap.size w w' := fun w h1 h2 h3 => by have := PlanValid_s G M P k c m d np cp qs ys rows w h1 h2 h3 (by omega) (by omega) (by omega) hsml hl6 sa; rw [hV] at this; exact this
      go_upto_region 7 with (first
        | (go_at_call 42; ((with_reducible refine (V_i _ hA hC hT).mono ?_); rintro E wk ⟨rfl, hb⟩; replace hA := hA.below hb; replace hC := hC.below hb; replace hT := hT.below hb; replace hw := bt hw hb; clear hb))
        | (go_at_call 48; ((with_reducible refine (V_s _ hA hC hT).mono ?_); rintro E wk ⟨rfl, hb⟩; replace hA := hA.below hb; replace hC := hC.below hb; replace hT := hT.below hb; replace hw := bt hw hb; clear hb)))
      clear V_i V_s
      obtain ⟨v1, v2, v3, v4, v5⟩ := pvV_yes.1 hV
      have hnk : np = k := by omega
      subst hnk
      have hm6 : m = 6 := by rw [← hC.1]; exact (fv_at v2).1
      subst hm6
      have PL := pv_plan hV
      have hmu := (muV_nn v1 v2).1
      have hle := PL.le_most
      have hcut := PL.le_cut
      rw [us_len, hkl] at hle hcut
      rw [← hmu] at hle
      have hless := fun (i j : Nat) (hi : i < np) (hj : j < 6) => pv_less hV i j (by omega) hj
      obtain ⟨L, hL⟩ : ∃ L, muV qs ys = L := ⟨_, rfl⟩
      obtain ⟨S, hS⟩ : ∃ S, allL rows np = S := ⟨_, rfl⟩
      rw [hL, hS] at hle
      rw [hS] at hcut
      have A_i : ∀ w, Tabs w P np rows → Calls Tryd.prog 43 #[.slice P np cp] w fun E w' => E = .returned (.int .i64 S) ∧ Below w.heap.size w w' := fun w h2 => by
        have := PlanAll_i P np cp rows w h2 (by omega) hsml h6
        rw [hS] at this; exact this
      have M_i : ∀ w, Books w G np qs → Ints w M 6 ys → Calls Tryd.prog 32 #[.slice G np c, .slice M 6 d] w fun E w' => E = .returned (.int .i64 L) ∧ Below w.heap.size w w' := fun w h h' => by
        have := MostUnits_i G M np c d 6 qs ys w h h' (by omega) (by omega)
        rw [hL] at this; exact this
      have C_i0 : (∀ s : Nat, s < 64 → ∀ w, Books w G np qs → Ints w M 6 ys → Calls Tryd.prog 34 #[.slice G np c, .slice M 6 d, .int .i64 s] w fun E w' => E = .returned (.int .i64 (cutV (usL qs) (rssL qs) ys s)) ∧ Below w.heap.size w w') := fun s hs w h h' => CutUnits_i G M np c d 6 qs ys s w h h' (by omega) (by omega) v1 v2 hs
      have C_i := Lib.hid C_i0
      clear C_i0
      have X_i0 : (∀ (i j gx cx : Nat) (w : World), i < np → j < 6 → Books w G np qs → Ints w M 6 ys → Tabs w (some ⟨gx, 0, none⟩) np (rows.set i ((rows.getD i []).set j ((rows.getD i []).getD j 0 - 1))) → Calls Tryd.prog 42 #[.slice G np c, .slice M 6 d, .slice (some ⟨gx, 0, none⟩) np cx] w fun E w' => E = .returned (.bool (decide (0 < (rows.getD i []).getD j 0))) ∧ Below w.heap.size w w') := fun i j gx cx w hi' hj h1 h2 h3 => by
        have := PlanValid_i G M (some ⟨gx, 0, none⟩) np c 6 d np cx qs ys _ w h1 h2 h3 (by omega) (by omega) (by omega) (fun x y => by
          have a := hmid x y
          have b := hmid i j
          rw [getD_set]; split
          · rw [getD_set]; split
            · omega
            · have := hmid i y; omega
          · omega) (fun x => by
          rw [getD_set]; split
          · rw [List.length_set]; exact hl6 i
          · exact hl6 x)
        rw [hless i j hi' hj] at this; exact this
      have X_i := Lib.hid X_i0
      clear X_i0
      have HCUT := Lib.hid hcut
      have H6 := Lib.hid h6
      have HMID := Lib.hid hmid
      clear hV v1 v2 v3 v4 v5 PL hmu hcut hless hL hS hsml hl6 h6 hmid sa
      go_upto_region 10 with (go_at_call 43; ((with_reducible refine (A_i _ hT).mono ?_); rintro E wk ⟨rfl, hb⟩; replace hA := hA.below hb; replace hC := hC.below hb; replace hT := hT.below hb; replace hw := bt hw hb; clear hb A_i))
      go_wp2
      go_loopw [8] (fun i wr => ∃ s : Nat, s ≤ 64 ∧ i = .int .i64 s ∧ Books wr G np qs ∧ Ints wr M 6 ys ∧ Tabs wr P np rows ∧ Below w.heap.size w wr) (fun i _ => 64 - (intOf i).toNat)
      case atStart => exact ⟨0, by omega, rfl, hA, hC, hT, hw⟩
      case round =>
        clear hA hC hT hw
        obtain ⟨s, hs, rfl, hA, hC, hT, hw⟩ := hrel
        by_cases hlt : s < 64
        · have C0 := C_i.out s hlt _ hA hC
          have hc := HCUT.out s
          obtain ⟨X, hX⟩ : ∃ X, cutV (usL qs) (rssL qs) ys s = X := ⟨_, rfl⟩
          rw [hX] at C0 hc
          have b1 : decide (X < S) = false := by simp; omega
          clear hX hc
          go_wp2_with (go_at_call 34; ((with_reducible refine C0.mono ?_); rintro E wk ⟨rfl, hb⟩; replace hA := hA.below hb; replace hC := hC.below hb; replace hT := hT.below hb; replace hw := bt hw hb; clear hb C0))
          go_roundw
          case rel => exact ⟨s + 1, hlt, by go_num, hA, hC, hT, hw⟩
          case measure => simp [intOf]; omega
        · obtain rfl : s = 64 := by omega
          go_wp2
          go_loopw [9] (fun i wr => ∃ x : Nat, x ≤ np ∧ i = .int .i64 x ∧ Books wr G np qs ∧ Ints wr M 6 ys ∧ Tabs wr P np rows ∧ Below w.heap.size w wr) (fun i _ => np - (intOf i).toNat)
          case atStart => exact ⟨0, by omega, rfl, hA, hC, hT, hw⟩
          case round =>
            clear hA hC hT hw
            obtain ⟨x, hx, rfl, hA, hC, hT, hw⟩ := hrel
            by_cases hltx : x < np
            · have i1 : (0 : Int) ≤ (x : Int) := by omega
              have i2 : (x : Int) < (np : Int) := by omega
              go_wp2
              go_loopw [10] (fun i wr => ∃ y : Nat, y ≤ 6 ∧ i = .int .i64 y ∧ Books wr G np qs ∧ Ints wr M 6 ys ∧ Tabs wr P np rows ∧ Below w.heap.size w wr) (fun i _ => 6 - (intOf i).toNat)
              case atStart => exact ⟨0, by omega, rfl, hA, hC, hT, hw⟩
              case round =>
                clear hA hC hT hw
                obtain ⟨y, hy, rfl, hA, hC, hT, hw⟩ := hrel
                by_cases hlty : y < 6
                · have i3 : (0 : Int) ≤ (y : Int) := by omega
                  have i4 : (y : Int) < 6 := by omega
                  have hTr := Lib.hid hT
                  obtain ⟨pb, po, rfl, hpb, hcell⟩ := hT.2 (by omega)
                  obtain ⟨vs, vl, vn, vo, vk⟩ := Tabs.vals hT
                  obtain ⟨Ax, ck, hck, hkc, hAx⟩ := hcell x hltx
                  have hl := H6.out x hltx
                  have hrb := HMID.out x y
                  have X0 := X_i.out x y
                  obtain ⟨row, hrow⟩ : ∃ r, rows.getD x [] = r := ⟨_, rfl⟩
                  rw [hrow] at hck hkc hAx hl hrb X0
                  rw [hl] at hck hkc hAx
                  obtain ⟨kb, ko, rfl, hkb, hkv⟩ := hAx.2 (by omega)
                  have hky := hkv y hlty
                  obtain ⟨v, hv⟩ : ∃ v, row.getD y 0 = v := ⟨_, rfl⟩
                  rw [hv] at hky hrb X0
                  have hsz := hw.size
                  have HVL := Lib.hid vl
                  have HVN := Lib.hid vn
                  have HVO := Lib.hid vo
                  have HVK := Lib.hid vk
                  have HCK := Lib.hid hck
                  have HAX := Lib.hid hAx
                  have HKY := Lib.hid hky
                  have HL := Lib.hid hl
                  have HVV := Lib.hid hv
                  have HX0 := Lib.hid X0
                  have hbA : Below wr.heap.size wr (wr.alloc (.cells #[] 33)) := (Below.refl wr.heap.size wr).alloc (Nat.le_refl _) _
                  have HBA := Lib.hid hbA
                  have u1 : IntKind.i64.wrap (v - 1) = v - 1 := IntWalk.i64_in _ (by omega)
                  clear vl vn vo vk hck hAx hky hl X0 hbA hcell hkv hrow hv hrb
                  go_wp2_with (at_builtin; refine wpList_append_own _ rfl _ _ 39 rfl wr.heap.size 33 iR (.slice none 0 0) 1 24 Tryd.underlying39 hi1 ia1 ib1 ic1 rfl (by decide) _ _ _ rfl (nw_new0 wr wr.heap.size 33 1 (Nat.le_refl _)) ⟨pb, po, none⟩ np cp vs rfl ?c0 ?c1 ?c2 ?c3 ?c4 ?c5 ?_)
                  case c0 => exact (HVL.out).trans (Nat.mul_one _).symm
                  case c1 => exact fun j u hj => by have e := HVN.out j u hj; rw [add_none] at e ⊢; exact (HBA.out.cell (p := ⟨pb, po + j, none⟩) hpb).trans e
                  case c2 => exact HVO.out
                  case c3 => unfold maxLen; omega
                  case c4 => omega
                  case c5 => simp
                  intro v' w2 hown1 hgrow _
                  have hown2 : w2.ownsRow wr.heap.size 33 1 v' np vs := by simpa using hown1
                  have hb2 : Below wr.heap.size wr w2 := HBA.out.grown hgrow (by simp) (fun q hq => by simp [Value.ownBlock] at hq; omega)
                  obtain ⟨gx, cx, rfl, g1, g2, g3, g4⟩ := own_at hown2 (by omega)
                  obtain ⟨cur, hX, hXc, hXs⟩ := own_blk hown2
                  have a1 := (hb2.cell (p := ⟨pb, po + x, none⟩) hpb).trans HCK.out
                  have hpb2 : pb < w2.heap.size := Nat.lt_of_lt_of_le hpb hb2.size
                  have a2 := (((Below.refl w2.heap.size w2).alloc (Nat.le_refl _) (.cells #[] 3)).cell (p := ⟨pb, po + x, none⟩) hpb2).trans a1
                  have hA2 := HAX.out.below hb2
                  have HX2 := Lib.hid hX
                  have HXC := Lib.hid hXc
                  have HB2 := Lib.hid hb2
                  have HA2 := Lib.hid hA2
                  have hs2 := hb2.size
                  clear hown1 hown2 hgrow hX hXc hb2 hA2
                  go_wp2_with (at_builtin; refine wpList_append_own _ rfl _ _ 33 rfl w2.heap.size 3 i0 (.int .i64 0) 1 8 Tryd.underlying33 hi ia ib ic rfl (by decide) _ _ _ rfl (nw_new0 w2 w2.heap.size 3 1 (Nat.le_refl _)) ⟨kb, ko, none⟩ 6 ck (row.map (Value.int .i64)) rfl ?c0 ?c1 ?c2 ?c3 ?c4 ?c5 ?_)
                  case c0 => simp [HL.out]
                  case c1 => exact (HA2.out.below ((Below.refl _ _).alloc (Nat.le_refl _) _)).news
                  case c2 => exact one_ints row
                  case c3 => unfold maxLen; omega
                  case c4 => omega
                  case c5 => simp
                  intro v' w3 hown1 hgrow _
                  have hown3 : w3.ownsRow w2.heap.size 3 1 v' 6 (row.map (Value.int .i64)) := by simpa using hown1
                  have hb3 : Below w2.heap.size w2 w3 := ((Below.refl w2.heap.size w2).alloc (Nat.le_refl _) (.cells #[] 3)).grown hgrow (by simp) (fun q hq => by simp [Value.ownBlock] at hq; omega)
                  obtain ⟨gy, cy, rfl, y1, y2, y3, y4⟩ := own_at hown3 (by omega)
                  have hR3 := (Rw.of_own hown3 HL.out).1
                  have hX3 : Blk w3 gx 33 cur := (hb3.block gx g2).trans HX2.out
                  have fx := hX3.frozen x
                  obtain ⟨u0, cx0⟩ : ∃ u, w3.cell? ⟨gx, x, none⟩ = some u := by obtain ⟨Ai, ci, e1, _, _⟩ := HVK.out x hltx; exact ⟨_, (hX3.cell x).trans ((HXC.out x hltx).trans e1)⟩
                  have hs3 := hb3.size
                  have HB3 := Lib.hid (bt HB2.out hb3)
                  have HR3 := Lib.hid hR3
                  have HX3 := Lib.hid hX3
                  clear hown1 hown3 hgrow hb3 hR3 hX3 a1 a2
                  go_upto_region 23 with fail
                  have hXW := HX3.out.set_ x (.slice (some ⟨gy, 0, none⟩) 6 cy)
                  have hRW := HR3.out.far (p := ⟨gx, x, none⟩) (by show gy ≠ gx; omega) (.slice (some ⟨gy, 0, none⟩) 6 cy)
                  have hBW := HB3.out.setCell (p := ⟨gx, x, none⟩) g1 (.slice (some ⟨gy, 0, none⟩) 6 cy)
                  obtain ⟨p1, p2⟩ := blk_put (cs := cur) (x := x) (.slice (some ⟨gy, 0, none⟩) 6 cy) (by omega)
                  have c0 := (hXW.cell x).trans p1
                  have c1 := hRW.cell hlty
                  have f1 := hRW.frozen y
                  have hsW : (w3.setCell ⟨gx, x, none⟩ (.slice (some ⟨gy, 0, none⟩) 6 cy)).heap.size = w3.heap.size := by simp
                  generalize hWW : w3.setCell ⟨gx, x, none⟩ (.slice (some ⟨gy, 0, none⟩) 6 cy) = W at hXW hRW hBW c0 c1 f1 hsW ⊢
                  clear hWW fx cx0
                  rw [HVV.out] at c1
                  have HXW := Lib.hid hXW
                  have HRW := Lib.hid hRW
                  have HBW := Lib.hid hBW
                  have HP1 := Lib.hid p1
                  have HP2 := Lib.hid p2
                  have HSW := Lib.hid hsW
                  go_region
                  all_goals
                    have hXU : Blk ((W.setCell ⟨gy, y, none⟩ (.int .i64 (v - 1))).drew) gx 33 (cur.setIfInBounds x (.slice (some ⟨gy, 0, none⟩) 6 cy)) := (Below.heap_setCell W ⟨gy, y, none⟩ (.int .i64 (v - 1)) gx (by show gx ≠ gy; omega)).trans HXW.out
                    have hBU := (HBW.out.setCell (p := ⟨gy, y, none⟩) (by show _ ≤ gy; omega) (.int .i64 (v - 1))).drew
                    have hRU := (HRW.out.set y (v - 1)).ints.below (Below.refl _ _).drew
                    have hsU : ((W.setCell ⟨gy, y, none⟩ (.int .i64 (v - 1))).drew).heap.size = w3.heap.size := by rw [← HSW.out]; simp
                    generalize hU : (W.setCell ⟨gy, y, none⟩ (.int .i64 (v - 1))).drew = U at hXU hBU hRU hsU ⊢
                    clear hU
                    have hTx : Tabs U (some ⟨gx, 0, none⟩) np (rows.set x (row.set y (v - 1))) := Tabs.mod (w := wr) hTr.out.1 HVK.out hBU (by omega) (fun i hi hne => (hXU.cell i).trans ((HP2.out i hne).trans (HXC.out i hi))) ((hXU.cell x).trans HP1.out) (by simp [HL.out]) (by omega) hRU hltx
                    have b1 := (hBU.cell (p := ⟨pb, po + x, none⟩) hpb).trans HCK.out
                    have b2 := (hBU.cell (p := ⟨kb, ko + y, none⟩) hkb).trans HKY.out
                    have HA5 := Lib.hid (hA.below hBU)
                    have HC5 := Lib.hid (hC.below hBU)
                    have HT5 := Lib.hid (hTr.out.below hBU)
                    have HW5 := Lib.hid (bt hw hBU)
                    have HTX := Lib.hid hTx
                    have X1 := fun w' => HX0.out gx cx w' hltx hlty
                    have hsb := hBU.size
                    have hpU : pb < U.heap.size := by omega
                    have hkU : kb < U.heap.size := by omega
                    clear hXU hBU hRU hTx hA hC hT hw c0 c1 f1 hsU u1
                    by_cases hz : 0 < v
                    · have t0 : decide (0 < v) = true := by simpa using hz
                      rw [t0] at X1
                      clear hz
                      go_upto_region 24 with fail
                      go_region_held3 (fun w' => Below (U.heap.size) (U) w' ∧ ∀ k o, k < U.heap.size → w'.cell? ⟨k, o, none⟩ = World.cell? (U) ⟨k, o, none⟩) (first | assumption | exact kp_start | (refine kp_step ?_ hb ?_; assumption; (first | omega | (simp; done) | (simp; omega))) | (refine kp_drew ?_; assumption) | (refine kp_drew (kp_of hb ?_); (first | omega | (simp; done) | (simp; omega)))) (first | (go_at_call 42; (with_reducible refine (X1 _ (HA5.out.below (by (refine kp_end (by assumption) ?_ (by first | omega | (simp; done) | (simp; omega)); (repeat (first | exact Below.refl _ _ | assumption | refine Below.alloc ?_ (by first | omega | (simp; done) | (simp; omega)) _ | refine Below.drew ?_ | refine bdN ?_ _ | refine Below.setCell ?_ (by first | omega | (simp; done) | (simp; omega)) _))))) (HC5.out.below (by (refine kp_end (by assumption) ?_ (by first | omega | (simp; done) | (simp; omega)); (repeat (first | exact Below.refl _ _ | assumption | refine Below.alloc ?_ (by first | omega | (simp; done) | (simp; omega)) _ | refine Below.drew ?_ | refine bdN ?_ _ | refine Below.setCell ?_ (by first | omega | (simp; done) | (simp; omega)) _))))) (HTX.out.below (by (refine kp_end (by assumption) ?_ (by first | omega | (simp; done) | (simp; omega)); (repeat (first | exact Below.refl _ _ | assumption | refine Below.alloc ?_ (by first | omega | (simp; done) | (simp; omega)) _ | refine Below.drew ?_ | refine bdN ?_ _ | refine Below.setCell ?_ (by first | omega | (simp; done) | (simp; omega)) _)))))).mono ?_); rintro e w' ⟨rfl, hb⟩))
                      all_goals
                        go_wp2_with fail
                        go_roundw
                        case rel => (repeat apply Exists.intro); exact ⟨⟨y + 1, hlty, by go_num, HA5.out.below (by (refine kp_end (by assumption) ?_ (by first | omega | (simp; done) | (simp; omega)); (repeat (first | exact Below.refl _ _ | assumption | refine Below.alloc ?_ (by first | omega | (simp; done) | (simp; omega)) _ | refine Below.drew ?_ | refine bdN ?_ _ | refine Below.setCell ?_ (by first | omega | (simp; done) | (simp; omega)) _)))), HC5.out.below (by (refine kp_end (by assumption) ?_ (by first | omega | (simp; done) | (simp; omega)); (repeat (first | exact Below.refl _ _ | assumption | refine Below.alloc ?_ (by first | omega | (simp; done) | (simp; omega)) _ | refine Below.drew ?_ | refine bdN ?_ _ | refine Below.setCell ?_ (by first | omega | (simp; done) | (simp; omega)) _)))), HT5.out.below (by (refine kp_end (by assumption) ?_ (by first | omega | (simp; done) | (simp; omega)); (repeat (first | exact Below.refl _ _ | assumption | refine Below.alloc ?_ (by first | omega | (simp; done) | (simp; omega)) _ | refine Below.drew ?_ | refine bdN ?_ _ | refine Below.setCell ?_ (by first | omega | (simp; done) | (simp; omega)) _)))), bt HW5.out (by (refine kp_end (by assumption) ?_ (by first | omega | (simp; done) | (simp; omega)); (repeat (first | exact Below.refl _ _ | assumption | refine Below.alloc ?_ (by first | omega | (simp; done) | (simp; omega)) _ | refine Below.drew ?_ | refine bdN ?_ _ | refine Below.setCell ?_ (by first | omega | (simp; done) | (simp; omega)) _))))⟩, rfl⟩
                        case measure => simp [intOf]; omega
                    · have t0 : decide (0 < v) = false := by simpa using hz
                      rw [t0] at X1
                      clear hz
                      go_upto_region 24 with fail
                      go_region_held3 (fun w' => Below (U.heap.size) (U) w' ∧ ∀ k o, k < U.heap.size → w'.cell? ⟨k, o, none⟩ = World.cell? (U) ⟨k, o, none⟩) (first | assumption | exact kp_start | (refine kp_step ?_ hb ?_; assumption; (first | omega | (simp; done) | (simp; omega))) | (refine kp_drew ?_; assumption) | (refine kp_drew (kp_of hb ?_); (first | omega | (simp; done) | (simp; omega)))) (first | (go_at_call 42; (with_reducible refine (X1 _ (HA5.out.below (by (refine kp_end (by assumption) ?_ (by first | omega | (simp; done) | (simp; omega)); (repeat (first | exact Below.refl _ _ | assumption | refine Below.alloc ?_ (by first | omega | (simp; done) | (simp; omega)) _ | refine Below.drew ?_ | refine bdN ?_ _ | refine Below.setCell ?_ (by first | omega | (simp; done) | (simp; omega)) _))))) (HC5.out.below (by (refine kp_end (by assumption) ?_ (by first | omega | (simp; done) | (simp; omega)); (repeat (first | exact Below.refl _ _ | assumption | refine Below.alloc ?_ (by first | omega | (simp; done) | (simp; omega)) _ | refine Below.drew ?_ | refine bdN ?_ _ | refine Below.setCell ?_ (by first | omega | (simp; done) | (simp; omega)) _))))) (HTX.out.below (by (refine kp_end (by assumption) ?_ (by first | omega | (simp; done) | (simp; omega)); (repeat (first | exact Below.refl _ _ | assumption | refine Below.alloc ?_ (by first | omega | (simp; done) | (simp; omega)) _ | refine Below.drew ?_ | refine bdN ?_ _ | refine Below.setCell ?_ (by first | omega | (simp; done) | (simp; omega)) _)))))).mono ?_); rintro e w' ⟨rfl, hb⟩))
                      all_goals
                        go_wp2_with fail
                        go_roundw
                        case rel => (repeat apply Exists.intro); exact ⟨⟨y + 1, hlty, by go_num, HA5.out.below (by (refine kp_end (by assumption) ?_ (by first | omega | (simp; done) | (simp; omega)); (repeat (first | exact Below.refl _ _ | assumption | refine Below.alloc ?_ (by first | omega | (simp; done) | (simp; omega)) _ | refine Below.drew ?_ | refine bdN ?_ _ | refine Below.setCell ?_ (by first | omega | (simp; done) | (simp; omega)) _)))), HC5.out.below (by (refine kp_end (by assumption) ?_ (by first | omega | (simp; done) | (simp; omega)); (repeat (first | exact Below.refl _ _ | assumption | refine Below.alloc ?_ (by first | omega | (simp; done) | (simp; omega)) _ | refine Below.drew ?_ | refine bdN ?_ _ | refine Below.setCell ?_ (by first | omega | (simp; done) | (simp; omega)) _)))), HT5.out.below (by (refine kp_end (by assumption) ?_ (by first | omega | (simp; done) | (simp; omega)); (repeat (first | exact Below.refl _ _ | assumption | refine Below.alloc ?_ (by first | omega | (simp; done) | (simp; omega)) _ | refine Below.drew ?_ | refine bdN ?_ _ | refine Below.setCell ?_ (by first | omega | (simp; done) | (simp; omega)) _)))), bt HW5.out (by (refine kp_end (by assumption) ?_ (by first | omega | (simp; done) | (simp; omega)); (repeat (first | exact Below.refl _ _ | assumption | refine Below.alloc ?_ (by first | omega | (simp; done) | (simp; omega)) _ | refine Below.drew ?_ | refine bdN ?_ _ | refine Below.setCell ?_ (by first | omega | (simp; done) | (simp; omega)) _))))⟩, rfl⟩
                        case measure => simp [intOf]; omega
                · obtain rfl : y = 6 := by omega
                  go_wp2
                  go_roundw
                  case rel => exact ⟨x + 1, hltx, by go_num, hA, hC, hT, hw⟩
                  case measure => simp [intOf]; omega
            · obtain rfl : x = np := by omega
              have b1 : decide (S ≤ L) = true := by simpa using hle
              go_wp2_with (go_at_call 32; ((with_reducible refine (M_i _ hA hC).mono ?_); rintro E wk ⟨rfl, hb⟩; replace hw := bt hw hb; clear hb))
              go_ret
              exact ⟨ret_bool (by first | rfl | exact b1 | simp), hw⟩
end Go.Proofs.YtoombdhchikbmaaDoor
