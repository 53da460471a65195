/- The walk of laws.FnChangeFrom. No condition. -/
import Derived.Test.YtoiaggjjfahabaaDoorLChF0
import Derived.Test.YtoiaggjjfahabaaDoorPChF
import Derived.Test.YtoiaggjjfahabaaDoorRws
import Derived.Deep.RegionLaw
namespace Go.Proofs.YtoiaggjjfahabaaDoor
open Go.RowKit
set_option linter.unusedVariables false
/-- a result ([]int, bool) that reads as xs, of length l -/
def ResL (w : World) (l : Nat) (xs : List Int) (ok : Bool) (e : Ending) (w' : World) : Prop := ∃ A c, e = .returned (.tuple #[.slice A l c, .bool ok]) ∧ Ints w' A l xs ∧ Below w.heap.size w w'
theorem ResI.len {w w' : World} {xs : List Int} {ok : Bool} {e : Ending} {l : Nat} (r : ResI w xs ok e w') (hl : xs.length = l) : ResL w l xs ok e w' := by
  obtain ⟨A2, c2, e, h2, _, hb⟩ := r; rw [hl] at e h2; exact ⟨A2, c2, e, h2, hb⟩
theorem ResW.len {w w' : World} {xs : List Int} {ok : Bool} {e : Ending} {l : Nat} (r : ResW w xs ok e w') (hl : xs.length = l) : ResL w l xs ok e w' := by
  obtain ⟨A2, c2, e, h2, hb⟩ := r.own; have h3 := h2.ints; rw [hl] at e h3; exact ⟨A2, c2, e, h3, hb⟩
set_option maxRecDepth 100000 in
set_option maxHeartbeats 4000000 in
theorem FnChangeFrom_walk (w : World) (A : Option Addr) (n cap : Nat) (zs : List Int) (h : Nums .u8 w A n cap zs) :
    Calls Tryd.prog 5 #[.slice A n cap] w fun e w' => e = .returned (.bool true) ∧ Below w.heap.size w w' := by
  obtain ⟨i0, hi, ia, ib, ic⟩ := info_parts infoI
  go_enter Tryd.func5, Tryd.ntmps5
  by_cases hn : 1048576 < n
  · have hnb : decide (1048576 < n) = true := by simpa using hn
    clear h
    go_wp2
    go_ret
    exact ⟨rfl, by (repeat (first | exact Below.refl _ _ | assumption | refine Below.alloc ?_ (by first | omega | (simp; done) | (simp; omega)) _ | refine Below.drew ?_ | refine bdN ?_ _ | refine Below.setCell ?_ (by first | omega | (simp; done) | (simp; omega)) _))⟩
  · have hnb : decide (1048576 < n) = false := by simpa using hn
    go_upto_region 4 with (go_at_call 15; refine (drawChangeFrom_ok A n cap zs _ h (by omega)).mono ?_; rintro E w1 ⟨B, k, c, qs, G, d, ys, m, rfl, hC, hG, k9, kc, cm, kd, dm, hq, hm, hw⟩; clear h)
    clear hn hnb
    obtain ⟨xs, hxs⟩ : ∃ xs, chV qs ys m = xs := ⟨_, rfl⟩
    obtain ⟨V, hV⟩ : ∃ V, chO qs ys m = V := ⟨_, rfl⟩
    obtain ⟨l, hl⟩ : ∃ l, xs.length = l := ⟨_, rfl⟩
    have hsm : ∀ i : Nat, -1000000 ≤ xs.getD i 0 ∧ xs.getD i 0 ≤ 1000000 := fun i => by rw [← hxs]; exact ch_sm qs ys m i
    have F_i : ∀ w, Ints w B k qs → Ints w G k ys → Calls Tryd.prog 16 #[.slice B k c, .slice G k d, .int .i64 m] w (ResL w l xs V) := fun w h h' => by have := ChangeFrom_i B G k c k d qs ys m w h h' (by omega) (by omega); rw [hxs, hV] at this; exact this.mono fun E w' r => r.len hl
    have F_s : ∀ w, Ints w B k qs → Ints w G k ys → Calls Tryd.prog 17 #[.slice B k c, .slice G k d, .int .i64 m] w (ResL w l xs V) := fun w h h' => by have := ChangeFrom_s B G k c k d qs ys m w h h' (by omega) (by omega); rw [hxs, hV] at this; exact this.mono fun E w' r => r.len hl
    have hkl := hC.1
    have hkg := hG.1
    have hlen : l ≤ 9 := by
      cases V
      · have := ch_none hV; rw [hxs] at this; rw [this] at hl; simp at hl; omega
      · have := (ch_yes hV).2.2.2.2.1; rw [hxs] at this; omega
    have E0 := eqL_self xs
    have HX := Lib.hid hxs
    have HV := Lib.hid hV
    have HL := Lib.hid hl
    have HKL := Lib.hid hkl
    have HKG := Lib.hid hkg
    clear hV hxs hl hkl hkg
    go_upto_if 45 with (first
      | (go_at_call 16; ((with_reducible refine (F_i _ hC hG).mono ?_); rintro E wk ⟨A2, c2, rfl, hI2, hb⟩; replace hC := hC.below hb; replace hG := hG.below hb; replace hw := bt hw hb; clear hb))
      | (go_at_call 17; ((with_reducible refine (F_s _ hC hG).mono ?_); rintro E wk ⟨A3, c3, rfl, hI3, hb⟩; replace hC := hC.below hb; replace hG := hG.below hb; replace hI2 := hI2.below hb; replace hw := bt hw hb; clear hb))
      | (go_at_call 18; ((with_reducible refine (sameInts_any _ _ _ _ _ _ xs xs _ hI2 hI3 ?_).mono ?_); (omega); rw [E0]; rintro E wk ⟨rfl, hb⟩; replace hC := hC.below hb; replace hG := hG.below hb; replace hI2 := hI2.below hb; replace hw := bt hw hb; clear hb hI3)))
    clear F_i F_s E0
    cases V
    · have hno := ch_none HV.out
      rw [HX.out] at hno
      obtain rfl := hno
      obtain rfl : 0 = l := HL.out
      clear HX HV HL hsm
      go_wp2_with (go_at_call 19; ((with_reducible refine (alive_ok _).mono ?_); rintro E wk ⟨rfl, hb⟩; replace hw := bt hw hb; clear hb))
      go_ret; exact ⟨rfl, hw⟩
    · obtain ⟨hx0, hcs, htl, hls, hxl, hat⟩ := ch_yes HV.out
      rw [HX.out] at hcs htl hxl hat
      obtain rfl : l = k := by rw [← HL.out, hxl, HKL.out]
      obtain ⟨T, hT⟩ : ∃ T, chC qs ys m = T := ⟨_, rfl⟩
      obtain ⟨L, hL⟩ : ∃ L, leastV qs m = L := ⟨_, rfl⟩
      rw [hT, hL] at hls
      rw [HL.out, hT] at htl
      have S0 : ∀ w, Ints w B l qs → Ints w A2 l xs → Calls Tryd.prog 21 #[.slice B l c, .slice A2 l c2] w fun e w' => e = .returned (.int .i64 m) ∧ Below w.heap.size w w' := fun w h h' => by have := CoinSum_i B A2 l l c c2 qs xs w h h' (by omega) (by omega); rw [hcs] at this; exact this
      have U0 : ∀ A2 w, Ints w A2 l xs → Calls Tryd.prog 20 #[.slice A2 l c2] w fun e w' => e = .returned (.int .i64 T) ∧ Below w.heap.size w w' := fun A2 w h => by have := sumOf_any A2 l c2 xs w h (by omega) hsm; rw [htl] at this; exact this
      have L0 : ∀ w, Ints w B l qs → Calls Tryd.prog 22 #[.slice B l c, .int .i64 m] w fun e w' => e = .returned (.int .i64 L) ∧ Below w.heap.size w w' := fun w h => by have := CoinsLeast_i B l c qs m w h (by omega); rw [hL] at this; exact this
      have bL : decide (L ≤ T) = true := by simpa using hls
      have M0 : Hid (∀ j, j < l → 0 ≤ ys.getD j 0 ∧ ys.getD j 0 ≤ 9 ∧ xs.getD j 0 ≤ ys.getD j 0 ∧ (ys.getD j 0 + 1 ≤ 9 → chO qs (ys.set j (ys.getD j 0 + 1)) m = true ∧ totL (chV qs (ys.set j (ys.getD j 0 + 1)) m) l ≤ T ∧ (chV qs (ys.set j (ys.getD j 0 + 1)) m).length = l)) := fun j hj => by
        have q := hx0.2.2.2.2 j (by rw [HKG.out]; exact hj)
        refine ⟨q.1, q.2, hat j (by rw [HKL.out]; exact hj), fun h9 => ?_⟩
        obtain ⟨m1, m2⟩ := ch_more HV.out (show j < qs.length by rw [HKL.out]; exact hj) h9
        have y := ch_yes m1
        have yl := y.2.2.2.2.1
        rw [HKL.out] at yl
        have yt := y.2.2.1
        rw [yl] at yt
        rw [hT] at m2
        exact ⟨m1, by rw [yt]; exact m2, yl⟩
      clear hx0 hcs htl hls hxl hat hT hL
      go_wp2
      go_loopw [10] (fun i wr => ∃ j : Nat, j ≤ l ∧ i = .int .i64 j ∧ Ints wr B l qs ∧ Ints wr G l ys ∧ Ints wr A2 l xs ∧ Below w.heap.size w wr) (fun i _ => l - (intOf i).toNat)
      case atStart => exact ⟨0, by omega, rfl, hC, hG, hI2, hw⟩
      case round =>
        clear hC hG hI2 hw
        obtain ⟨j, hj, rfl, hC, hG, hI2, hw⟩ := hrel
        by_cases hlt : j < l
        · obtain ⟨gb, go, rfl⟩ := hG.addr (by omega)
          obtain ⟨ab, ao, rfl⟩ := hI2.addr (by omega)
          obtain ⟨q1, q2, q3, q4⟩ := M0.out j hlt
          have hgl := (hG.cellx j hlt).2
          have hal := (hI2.cellx j hlt).2
          have hgc := (hG.cellx j hlt).1
          have hac := (hI2.cellx j hlt).1
          obtain ⟨y, hy⟩ : ∃ y, ys.getD j 0 = y := ⟨_, rfl⟩
          obtain ⟨x, hx⟩ : ∃ x, xs.getD j 0 = x := ⟨_, rfl⟩
          rw [hy] at q1 q2 q3 q4 hgc
          rw [hx] at q3 hac
          have HGC := Lib.hid hgc
          have HAC := Lib.hid hac
          have HG := Lib.hid hG
          have HI := Lib.hid hI2
          have HC := Lib.hid hC
          have HY := Lib.hid hy
          have i1 : (0 : Int) ≤ (j : Int) := by omega
          have i2 : (j : Int) < (l : Int) := by omega
          have hbA : Below wr.heap.size wr (wr.alloc (.cells #[] 3)) := (Below.refl wr.heap.size wr).alloc (Nat.le_refl _) _
          have HBA := Lib.hid hbA
          have Q4 := Lib.hid q4
          clear q4 hgc hac hG hI2 hC hy hx hbA hsm
          go_wp2_with (at_builtin; refine wpList_append_own _ rfl _ _ 28 rfl wr.heap.size 3 i0 (.int .i64 0) 1 8 Tryd.underlying28 hi ia ib ic rfl (by decide) _ _ _ rfl (nw_new0 wr wr.heap.size 3 1 (Nat.le_refl _)) ⟨gb, go, none⟩ l d (ys.map (Value.int .i64)) rfl ?c0 ?c1 ?c2 ?c3 ?c4 ?c5 ?_)
          case c0 => simp [HKG.out]
          case c1 => exact (HG.out.below HBA.out).news
          case c2 => exact one_ints ys
          case c3 => unfold maxLen; omega
          case c4 => omega
          case c5 => simp
          intro v' w2 hown1 hgrow _
          have hown2 : w2.ownsRow wr.heap.size 3 1 v' l (ys.map (Value.int .i64)) := by simpa using hown1
          have hb2 : Below wr.heap.size wr w2 := HBA.out.grown hgrow (by simp) (fun q hq => by simp [Value.ownBlock] at hq; omega)
          obtain ⟨gx, cx, rfl, g1, g2, g3, g4⟩ := own_at hown2 (by omega)
          have hR := (Rw.of_own hown2 HKG.out).1
          have hrc := hR.cell hlt
          rw [HY.out] at hrc
          have hrf := hR.frozen j
          have HR := Lib.hid hR
          have HB2 := Lib.hid hb2
          clear hown1 hown2 hgrow hR hb2
          go_upto_region 15 with fail
          have hRW := HR.out.set j (y + 1)
          have hBW := HB2.out.setCell (p := ⟨gx, j, none⟩) g1 (.int .i64 (y + 1))
          have hsW : (w2.setCell ⟨gx, j, none⟩ (.int .i64 (y + 1))).heap.size = w2.heap.size := by simp
          generalize hWW : w2.setCell ⟨gx, j, none⟩ (.int .i64 (y + 1)) = W at hRW hBW hsW ⊢
          clear hWW hrc hrf
          obtain ⟨yv, hyv⟩ : ∃ yv, chV qs (ys.set j (y + 1)) m = yv := ⟨_, rfl⟩
          obtain ⟨yo, hyo⟩ : ∃ yo, chO qs (ys.set j (y + 1)) m = yo := ⟨_, rfl⟩
          obtain ⟨ly, hly⟩ : ∃ ly, yv.length = ly := ⟨_, rfl⟩
          have ysm : ∀ i : Nat, -1000000 ≤ yv.getD i 0 ∧ yv.getD i 0 ≤ 1000000 := fun i => by rw [← hyv]; exact ch_sm qs _ m i
          have q4 := Q4.out
          rw [hyv, hyo, hly] at q4
          have X0 : ∀ w, Ints w B l qs → Ints w (some ⟨gx, 0, none⟩) l (ys.set j (y + 1)) → Calls Tryd.prog 16 #[.slice B l c, .slice (some ⟨gx, 0, none⟩) l cx, .int .i64 m] w (ResL w ly yv yo) := fun w h h' => by have := ChangeFrom_i B _ l c l cx qs _ m w h h' (by omega) (by omega); rw [hyv, hyo] at this; exact this.mono fun E w' r => r.len hly
          have hIx := hRW.ints
          have hCW := HC.out.below hBW
          have hxc0 := hRW.cell hlt
          have hxv : (ys.set j (y + 1)).getD j 0 = y + 1 := by rw [getD_set, if_pos ⟨rfl, by rw [HKG.out]; exact hlt⟩]
          rw [hxv] at hxc0
          have HXC := Lib.hid hxc0
          have hgW := hRW.lt
          have HBW := Lib.hid hBW
          have H4 := Lib.hid q4
          have hszW := hBW.size
          clear Q4 q4 hyv hyo hly hxv hxc0 hBW hRW hsW
          go_upto_region 16 with (go_at_call 16; ((with_reducible refine (X0 _ hCW hIx).mono ?_); rintro E U ⟨Y, cy, rfl, hIY, hb⟩; clear X0 hCW hIx))
          have hBU : Below wr.heap.size wr U := HBW.out.trans (hb.mono hszW)
          have a1 := (hBU.cell (p := ⟨gb, go + j, none⟩) hgl).trans HGC.out
          have a2 := (hBU.cell (p := ⟨ab, ao + j, none⟩) hal).trans HAC.out
          have a3 := (hb.cell (p := ⟨gx, j, none⟩) hgW).trans HXC.out
          have z1 : gb < U.heap.size := Nat.lt_of_lt_of_le hgl hBU.size
          have z2 : ab < U.heap.size := Nat.lt_of_lt_of_le hal hBU.size
          have z3 : gx < U.heap.size := Nat.lt_of_lt_of_le hgW hb.size
          have HCU := Lib.hid (HC.out.below hBU)
          have HGU := Lib.hid (HG.out.below hBU)
          have HIU := Lib.hid (HI.out.below hBU)
          have HWU := Lib.hid (bt hw hBU)
          have HIY := Lib.hid hIY
          have b1 : decide (y < x) = false := by simpa using q3
          clear hb hBU hIY hw hszW hgW hgl hal
          obtain ⟨v, hv⟩ : ∃ v, y + 1 = v := ⟨_, rfl⟩
          rw [hv] at a3
          have HV2 := Lib.hid hv
          clear hv
          by_cases h9 : v ≤ 9
          · have b2 : decide (v ≤ 9) = true := by simpa using h9
            obtain ⟨rfl, t1, rfl⟩ := H4.out (by have := HV2.out; omega)
            obtain ⟨T2, hT2⟩ : ∃ T2, totL yv ly = T2 := ⟨_, rfl⟩
            rw [hT2] at t1
            have U1 : ∀ w, Ints w Y ly yv → Calls Tryd.prog 20 #[.slice Y ly cy] w fun e w' => e = .returned (.int .i64 T2) ∧ Below w.heap.size w w' := fun w h => by have := sumOf_any Y ly cy yv w h (by omega) ysm; rw [hT2] at this; exact this
            have b3 : decide (T < T2) = false := by simpa using t1
            clear hT2 t1 H4 ysm h9
            go_region_held3 (fun w' => Below (U.heap.size) (U) w' ∧ ∀ k o, k < U.heap.size → w'.cell? ⟨k, o, none⟩ = World.cell? (U) ⟨k, o, none⟩) (first | assumption | exact kp_start | (refine kp_step ?_ hb ?_; assumption; (first | omega | (simp; done) | (simp; omega))) | (refine kp_drew ?_; assumption) | (refine kp_drew (kp_of hb ?_); (first | omega | (simp; done) | (simp; omega)))) (first
              | (go_at_call 20; (with_reducible refine (U1 _ (HIY.out.below (by (refine kp_end (by assumption) ?_ (by first | omega | (simp; done) | (simp; omega)); (repeat (first | exact Below.refl _ _ | assumption | refine Below.alloc ?_ (by first | omega | (simp; done) | (simp; omega)) _ | refine Below.drew ?_ | refine bdN ?_ _ | refine Below.setCell ?_ (by first | omega | (simp; done) | (simp; omega)) _)))))).mono ?_); rintro e w' ⟨rfl, hb⟩)
              | (go_at_call 20; (with_reducible refine (U0 _ _ (HIU.out.below (by (refine kp_end (by assumption) ?_ (by first | omega | (simp; done) | (simp; omega)); (repeat (first | exact Below.refl _ _ | assumption | refine Below.alloc ?_ (by first | omega | (simp; done) | (simp; omega)) _ | refine Below.drew ?_ | refine bdN ?_ _ | refine Below.setCell ?_ (by first | omega | (simp; done) | (simp; omega)) _)))))).mono ?_); rintro e w' ⟨rfl, hb⟩))
            all_goals
              go_wp2_with fail
              go_roundw
              case rel => exact ⟨j + 1, hlt, by go_num, HCU.out.below (by (refine kp_end (by assumption) ?_ (by first | omega | (simp; done) | (simp; omega)); (repeat (first | exact Below.refl _ _ | assumption | refine Below.alloc ?_ (by first | omega | (simp; done) | (simp; omega)) _ | refine Below.drew ?_ | refine bdN ?_ _ | refine Below.setCell ?_ (by first | omega | (simp; done) | (simp; omega)) _)))), HGU.out.below (by (refine kp_end (by assumption) ?_ (by first | omega | (simp; done) | (simp; omega)); (repeat (first | exact Below.refl _ _ | assumption | refine Below.alloc ?_ (by first | omega | (simp; done) | (simp; omega)) _ | refine Below.drew ?_ | refine bdN ?_ _ | refine Below.setCell ?_ (by first | omega | (simp; done) | (simp; omega)) _)))), HIU.out.below (by (refine kp_end (by assumption) ?_ (by first | omega | (simp; done) | (simp; omega)); (repeat (first | exact Below.refl _ _ | assumption | refine Below.alloc ?_ (by first | omega | (simp; done) | (simp; omega)) _ | refine Below.drew ?_ | refine bdN ?_ _ | refine Below.setCell ?_ (by first | omega | (simp; done) | (simp; omega)) _)))), bt HWU.out (by (refine kp_end (by assumption) ?_ (by first | omega | (simp; done) | (simp; omega)); (repeat (first | exact Below.refl _ _ | assumption | refine Below.alloc ?_ (by first | omega | (simp; done) | (simp; omega)) _ | refine Below.drew ?_ | refine bdN ?_ _ | refine Below.setCell ?_ (by first | omega | (simp; done) | (simp; omega)) _))))⟩
              case measure => simp [intOf]; omega
          · have b2 : decide (v ≤ 9) = false := by simpa using h9
            clear H4 ysm h9
            go_quiet (fail)
            all_goals
              go_wp2_with fail
              go_roundw
              case rel => exact ⟨j + 1, hlt, by go_num, HCU.out.below (by (repeat (first | exact Below.refl _ _ | assumption | refine Below.alloc ?_ (by first | omega | (simp; done) | (simp; omega)) _ | refine Below.drew ?_ | refine bdN ?_ _ | refine Below.setCell ?_ (by first | omega | (simp; done) | (simp; omega)) _))), HGU.out.below (by (repeat (first | exact Below.refl _ _ | assumption | refine Below.alloc ?_ (by first | omega | (simp; done) | (simp; omega)) _ | refine Below.drew ?_ | refine bdN ?_ _ | refine Below.setCell ?_ (by first | omega | (simp; done) | (simp; omega)) _))), HIU.out.below (by (repeat (first | exact Below.refl _ _ | assumption | refine Below.alloc ?_ (by first | omega | (simp; done) | (simp; omega)) _ | refine Below.drew ?_ | refine bdN ?_ _ | refine Below.setCell ?_ (by first | omega | (simp; done) | (simp; omega)) _))), bt HWU.out (by (repeat (first | exact Below.refl _ _ | assumption | refine Below.alloc ?_ (by first | omega | (simp; done) | (simp; omega)) _ | refine Below.drew ?_ | refine bdN ?_ _ | refine Below.setCell ?_ (by first | omega | (simp; done) | (simp; omega)) _)))⟩
              case measure => simp [intOf]; omega
        · obtain rfl : j = l := by omega
          go_wp2_with (first
            | (go_at_call 21; ((with_reducible refine (S0 _ hC hI2).mono ?_); rintro E wk ⟨rfl, hb⟩; replace hC := hC.below hb; replace hI2 := hI2.below hb; replace hw := bt hw hb; clear hb S0))
            | (go_at_call 20; ((with_reducible refine (U0 _ _ hI2).mono ?_); rintro E wk ⟨rfl, hb⟩; replace hC := hC.below hb; replace hI2 := hI2.below hb; replace hw := bt hw hb; clear hb U0))
            | (go_at_call 22; ((with_reducible refine (L0 _ hC).mono ?_); rintro E wk ⟨rfl, hb⟩; replace hC := hC.below hb; replace hI2 := hI2.below hb; replace hw := bt hw hb; clear hb L0)))
          all_goals (go_ret; exact ⟨ret_bool (by simp), hw⟩)
end Go.Proofs.YtoiaggjjfahabaaDoor
