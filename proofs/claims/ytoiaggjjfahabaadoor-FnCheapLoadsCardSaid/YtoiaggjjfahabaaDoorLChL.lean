/- The walk of laws.FnCheapLoads. No condition. -/
import Derived.Test.YtoiaggjjfahabaaDoorChg23
import Derived.Test.YtoiaggjjfahabaaDoorSumEq
import Derived.Test.YtoiaggjjfahabaaDoorAliveL
import Derived.Deep.RegionLaw
namespace Go.Proofs.YtoiaggjjfahabaaDoor
open Go.RowKit
set_option linter.unusedVariables false
theorem feed_tot (xs : List Int) (n : Nat) (hn : n ≤ 6) : cFeed xs 63 n = totL xs n := by
  induction n with
  | zero => rfl
  | succ n ih =>
    have e : (63 : Nat).testBit n = true := by
      have : (63 : Nat).testBit n = decide (n < 6) := Nat.testBit_two_pow_sub_one 6 n
      rw [this, decide_eq_true (by omega)]
    unfold cFeed totL
    rw [ih (by omega), e]; rfl
theorem cl_good {qs : List Quad} {cs ps : List Int} (h1 : nsV qs = true) (h2 : fvV cs = true) (h3 : fvV ps = true) :
    (∀ j, 0 ≤ (clL (usL qs) (rssL qs) cs ps).getD j 0 ∧ (clL (usL qs) (rssL qs) cs ps).getD j 0 ≤ cs.getD j 0) ∧ totL (clL (usL qs) (rssL qs) cs ps) 6 = muV qs cs ∧ muV qs (clL (usL qs) (rssL qs) cs ps) = muV qs cs := by
  have hu := nn_us h1
  have hr := nn_rs h1
  have hc := nn_cs h2
  have ho := ordL_ord ps
  have e63 : fV (usL qs) (rssL qs) cs 63 = lcV (usL qs) (rssL qs) cs := by unfold fV; rw [rstr_all cs (fv_at h2).1]
  have bd := (ld_le (us := usL qs) (rss := rssL qs) ho hu hr hc 0 6 (Nat.le_refl _)).2
  have sm := ld_sum (us := usL qs) (rss := rssL qs) ho hu hr hc 6 (Nat.le_refl _)
  have mo := ld_most (us := usL qs) (rss := rssL qs) ho hu hr hc
  rw [ho.all, e63] at sm
  rw [e63] at mo
  rw [← clL_eq] at bd sm mo
  have hf : fvV (clL (usL qs) (rssL qs) cs ps) = true := by
    unfold fvV
    rw [decide_eq_true_iff]
    refine ⟨clL_len _ _ _ _, fun k _ => ?_⟩
    have := bd k
    have := (fv_at h2).2 k
    omega
  refine ⟨bd, ?_, ?_⟩
  · rw [← feed_tot _ _ (Nat.le_refl _), sm, (muV_nn h1 h2).1]
  · rw [(muV_nn h1 hf).1, mo, (muV_nn h1 h2).1]
/-- a result []int that reads as xs, of length l -/
def ResL2 (w : World) (l : Nat) (xs : List Int) (e : Ending) (w' : World) : Prop := ∃ A c, e = .returned (.slice A l c) ∧ Ints w' A l xs ∧ Below w.heap.size w w'
theorem CLs.len {w w' : World} {xs : List Int} {e : Ending} {l : Nat} (r : CLs w xs e w') (hl : xs.length = l) : ResL2 w l xs e w' := by
  obtain ⟨A2, c2, e, h2, hb⟩ := r; rw [hl] at e h2; exact ⟨A2, c2, e, h2, hb⟩
set_option maxRecDepth 100000 in
set_option maxHeartbeats 4000000 in
theorem FnCheapLoads_walk (w : World) (A : Option Addr) (n cap : Nat) (zs : List Int) (h : Nums .u8 w A n cap zs) :
    Calls Tryd.prog 6 #[.slice A n cap] w fun e w' => e = .returned (.bool true) ∧ Below w.heap.size w w' := by
  go_enter Tryd.func6, Tryd.ntmps6
  by_cases hn : 1048576 < n
  · have hnb : decide (1048576 < n) = true := by simpa using hn
    clear h
    go_wp2
    go_ret
    exact ⟨rfl, by (repeat (first | exact Below.refl _ _ | assumption | refine Below.alloc ?_ (by first | omega | (simp; done) | (simp; omega)) _ | refine Below.drew ?_ | refine bdN ?_ _ | refine Below.setCell ?_ (by first | omega | (simp; done) | (simp; omega)) _))⟩
  · have hnb : decide (1048576 < n) = false := by simpa using hn
    go_upto_region 4 with (go_at_call 23; refine (drawCheapLoads_ok A n cap zs _ h (by omega)).mono ?_; rintro E w1 ⟨B, k, c, qs, G, m, d, ys, H, l, f, us, rfl, hB, hC, hP, k9, kc, cm, m7, md, dm, l7, lf, fm, sa, hw⟩; clear h)
    clear hn hnb
    obtain ⟨xs, hxs⟩ : ∃ xs, clO qs ys us = xs := ⟨_, rfl⟩
    obtain ⟨x6, hl⟩ : ∃ l, xs.length = l := ⟨_, rfl⟩
    have F_i : ∀ w, Books w B k qs → Ints w G m ys → Ints w H l us → Calls Tryd.prog 24 #[.slice B k c, .slice G m d, .slice H l f] w (ResL2 w x6 xs) := fun w h1 h2 h3 => by have := CheapLoads_i B G H k c m d l f qs ys us w h1 h2 h3 (by omega) (by omega) (by omega); rw [hxs] at this; exact this.mono fun E w' r => r.s.len hl
    have F_s : ∀ w, Books w B k qs → Ints w G m ys → Ints w H l us → Calls Tryd.prog 25 #[.slice B k c, .slice G m d, .slice H l f] w (ResL2 w x6 xs) := fun w h1 h2 h3 => by have := CheapLoads_s B G H k c m d l f qs ys us w h1 h2 h3 (by omega) (by omega) (by omega) sa; rw [hxs] at this; exact this.mono fun E w' r => r.len hl
    have hx6 : x6 = 0 ∧ xs = [] ∨ nsV qs = true ∧ fvV ys = true ∧ fvV us = true ∧ x6 = 6 ∧ xs = clL (usL qs) (rssL qs) ys us := by
      by_cases hv : nsV qs = true ∧ fvV ys = true ∧ fvV us = true
      · right
        have e := clO_yes hv.1 hv.2.1 hv.2.2
        rw [hxs] at e
        exact ⟨hv.1, hv.2.1, hv.2.2, by rw [← hl, e]; exact clL_len _ _ _ _, e⟩
      · left
        have e := clO_no hv
        rw [hxs] at e
        exact ⟨by rw [← hl, e]; rfl, e⟩
    have hl9 : x6 ≤ 6 := by omega
    have E0 : eqL xs xs = true := by simp [eqL]
    have HX := Lib.hid hx6
    clear hxs hl hx6 sa
    go_upto_if 28 with (first
      | (go_at_call 24; ((with_reducible refine (F_i _ hB hC hP).mono ?_); rintro E wk ⟨A2, c2, rfl, hI2, hb⟩; replace hB := hB.below hb; replace hC := hC.below hb; replace hP := hP.below hb; replace hw := bt hw hb; clear hb))
      | (go_at_call 25; ((with_reducible refine (F_s _ hB hC hP).mono ?_); rintro E wk ⟨A3, c3, rfl, hI3, hb⟩; replace hB := hB.below hb; replace hC := hC.below hb; replace hI2 := hI2.below hb; replace hw := bt hw hb; clear hb hP))
      | (go_at_call 18; ((with_reducible refine (sameInts_any _ _ _ _ _ _ xs xs _ hI2 hI3 ?_).mono ?_); (omega); rw [E0]; rintro E wk ⟨rfl, hb⟩; replace hB := hB.below hb; replace hC := hC.below hb; replace hI2 := hI2.below hb; replace hw := bt hw hb; clear hb hI3)))
    clear F_i F_s E0
    rcases HX.out with ⟨rfl, _⟩ | ⟨v1, v2, v3, rfl, hxs⟩
    · clear HX
      go_wp2_with (go_at_call 19; ((with_reducible refine (alive_ok _).mono ?_); rintro E wk ⟨rfl, hb⟩; replace hw := bt hw hb; clear hb))
      go_ret; exact ⟨rfl, hw⟩
    · obtain ⟨p1, p2, p3⟩ := cl_good v1 v2 v3
      rw [← hxs] at p1 p2 p3
      obtain rfl : m = 6 := by rw [← hC.1]; exact (fv_at v2).1
      have yb := (fv_at v2).2
      obtain ⟨L, hL⟩ : ∃ L, muV qs ys = L := ⟨_, rfl⟩
      rw [hL] at p2 p3
      have M_1 : ∀ w, Books w B k qs → Ints w G 6 ys → Calls Tryd.prog 26 #[.slice B k c, .slice G 6 d] w fun E w' => E = .returned (.int .i64 L) ∧ Below w.heap.size w w' := fun w h h' => by have := MostUnits_i B G k c d 6 qs ys w h h' (by omega) (by omega); rw [hL] at this; exact this
      have M_2 : ∀ w, Books w B k qs → Ints w A2 6 xs → Calls Tryd.prog 26 #[.slice B k c, .slice A2 6 c2] w fun E w' => E = .returned (.int .i64 L) ∧ Below w.heap.size w w' := fun w h h' => by have := MostUnits_i B A2 k c c2 6 qs xs w h h' (by omega) (by omega); rw [p3] at this; exact this
      have U0 : ∀ w, Ints w A2 6 xs → Calls Tryd.prog 20 #[.slice A2 6 c2] w fun E w' => E = .returned (.int .i64 L) ∧ Below w.heap.size w w' := fun w h => by have := sumOf_any A2 6 c2 xs w h (by omega) (fun i => by have := p1 i; have := yb i; omega); rw [p2] at this; exact this
      have P1 := Lib.hid p1
      clear HX v1 v2 v3 hxs p1 p2 p3 yb hL
      obtain ⟨gb, go, rfl⟩ := hC.addr (by omega)
      obtain ⟨ab, ao, rfl⟩ := hI2.addr (by omega)
      go_upto_region 10 with (go_at_call 26; ((with_reducible refine (M_1 _ hB hC).mono ?_); rintro E wk ⟨rfl, hb⟩; replace hB := hB.below hb; replace hC := hC.below hb; replace hI2 := hI2.below hb; replace hw := bt hw hb; clear hb M_1))
      go_wp2
      go_loopw [8] (fun i wr => ∃ j : Nat, j ≤ 6 ∧ i = .int .i64 j ∧ Books wr B k qs ∧ Ints wr (some ⟨gb, go, none⟩) 6 ys ∧ Ints wr (some ⟨ab, ao, none⟩) 6 xs ∧ Below w.heap.size w wr) (fun i _ => 6 - (intOf i).toNat)
      case atStart => exact ⟨0, by omega, rfl, hB, hC, hI2, hw⟩
      case round =>
        clear hB hC hI2 hw
        obtain ⟨j, hj, rfl, hB, hC, hI2, hw⟩ := hrel
        by_cases hlt : j < 6
        · have d1 := (hC.cellx j hlt).1
          have d2 := (hI2.cellx j hlt).1
          have q := P1.out j
          obtain ⟨x, hx⟩ : ∃ x, xs.getD j 0 = x := ⟨_, rfl⟩
          obtain ⟨y, hy⟩ : ∃ y, ys.getD j 0 = y := ⟨_, rfl⟩
          rw [hx] at d2 q
          rw [hy] at d1 q
          have t1 : decide (x < 0) = false := by simpa using q.1
          have t2 : decide (y < x) = false := by simpa using q.2
          have i1 : (0 : Int) ≤ (j : Int) := by omega
          have i2 : (j : Int) < (6 : Int) := by omega
          have HB := Lib.hid hB
          have HC := Lib.hid hC
          have HI := Lib.hid hI2
          have HW := Lib.hid hw
          clear q hx hy hB hC hI2 hw
          go_upto_region 13 with fail
          go_quiet (fail)
          all_goals
            go_wp2_with fail
            go_roundw
            case rel => exact ⟨j + 1, hlt, by go_num, HB.out.below (bdN (Below.refl _ _) _), HC.out.below (bdN (Below.refl _ _) _), HI.out.below (bdN (Below.refl _ _) _), bdN HW.out _⟩
            case measure => simp [intOf]; omega
        · obtain rfl : j = 6 := by omega
          go_wp2_with (first
            | (go_at_call 20; ((with_reducible refine (U0 _ hI2).mono ?_); rintro E wk ⟨rfl, hb⟩; replace hB := hB.below hb; replace hI2 := hI2.below hb; replace hw := bt hw hb; clear hb U0))
            | (go_at_call 26; ((with_reducible refine (M_2 _ hB hI2).mono ?_); rintro E wk ⟨rfl, hb⟩; replace hw := bt hw hb; clear hb M_2)))
          all_goals (go_ret; exact ⟨ret_bool (by simp), hw⟩)
end Go.Proofs.YtoiaggjjfahabaaDoor
