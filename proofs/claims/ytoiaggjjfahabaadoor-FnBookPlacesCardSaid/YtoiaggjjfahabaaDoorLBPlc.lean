/- The walk of laws.FnBookPlaces. No condition. -/
import Derived.Test.YtoiaggjjfahabaaDoorIPlc
import Derived.Test.YtoiaggjjfahabaaDoorDBooks
import Derived.Test.YtoiaggjjfahabaaDoorBMost
import Derived.Test.YtoiaggjjfahabaaDoorNews
import Derived.Test.YtoiaggjjfahabaaDoorSumEq
import Derived.Test.YtoiaggjjfahabaaDoorAliveL
import Derived.Deep.RegionLaw
namespace Go.Proofs.YtoiaggjjfahabaaDoor
open Go.RowKit
set_option linter.unusedVariables false
def DBP (w : World) (A : Option Addr) (k c : Nat) (qs : List Quad) (w' : World) : Prop := Books w' A k qs ∧ k ≤ 9 ∧ k ≤ c ∧ c ≤ maxLen ∧ Below w.heap.size w w'
set_option maxRecDepth 100000 in
theorem drawBookPlaces_ok (A : Option Addr) (n cap : Nat) (zs : List Int) (w : World) (h : Nums .u8 w A n cap zs) (hn : n ≤ 1048576) :
    Calls Tryd.prog 38 #[.slice A n cap] w fun e w' => ∃ g k c qs, e = .returned (.slice (some ⟨g, 0, none⟩) k c) ∧ DBP w (some ⟨g, 0, none⟩) k c qs w' := by
  go_enter Tryd.func38, Tryd.ntmps38
  go_wp2_with (first
    | (go_at_call 48; ((with_reducible refine (opN A n cap zs _ h hn).mono ?_); rintro e w1 ⟨rfl, hr, hb, hlt⟩; clear h))
    | (go_at_call 71; ((with_reducible refine (books_ok w.heap.size 9 _ _ hr ?_ ?_ ?_).mono ?_); (omega); (omega); (omega); rintro e w2 ⟨g, k, c, qs, rfl, hB, k1, k2, k3, k4, hr2, hs⟩; have hw := hb.trans hs.1; have hB2 := Lib.hid (hB _ (Stp.refl _ _)); clear hr hs hb hB)))
  go_ret
  exact ⟨_, _, _, qs, rfl, hB2.out, k1, k2, k3, hw⟩
/-- a result []int that reads as xs, of length l -/
def ResL1 (w : World) (l : Nat) (xs : List Int) (e : Ending) (w' : World) : Prop := ∃ A c, e = .returned (.slice A l c) ∧ Ints w' A l xs ∧ Below w.heap.size w w'
theorem ResB.len {w w' : World} {xs : List Int} {e : Ending} {l : Nat} (r : ResB w xs e w') (hl : xs.length = l) : ResL1 w l xs e w' := by
  obtain ⟨A2, c2, e, h2, _, hb⟩ := r; rw [hl] at e h2; exact ⟨A2, c2, e, h2, hb⟩
theorem ResP.len {w w' : World} {xs : List Int} {e : Ending} {l : Nat} (r : ResP w xs e w') (hl : xs.length = l) : ResL1 w l xs e w' := by
  obtain ⟨A2, c2, e, h2, hb⟩ := r
  rw [hl] at e h2
  refine ⟨A2, c2, e, ⟨hl, fun hn => ?_⟩, hb⟩
  obtain ⟨g, e2, _, hR⟩ := h2 hn
  obtain ⟨b, off, e1, h3, h4⟩ := hR.ints.2 hn
  exact ⟨b, off, e2.trans e1, h3, h4⟩
theorem Books.at0 {w : World} {g n k : Nat} {qs : List Quad} (h : Books w (some ⟨g, 0, none⟩) n qs) (hk : k < n) : w.cell? ⟨g, k * 4, none⟩ = some (.int .i64 (qs.getD k q0).a) ∧ w.cell? ⟨g, k * 4 + 1, none⟩ = some (.int .i64 (qs.getD k q0).b) ∧ w.cell? ⟨g, k * 4 + 2, none⟩ = some (.int .i64 (qs.getD k q0).c) ∧ w.cell? ⟨g, k * 4 + 3, none⟩ = some (.int .i64 (qs.getD k q0).d) := by
  obtain ⟨b, off, e, _, hc⟩ := h.2 (by omega)
  simp only [Option.some.injEq, Addr.mk.injEq, and_true] at e
  obtain ⟨rfl, rfl⟩ := e
  have := hc k hk
  simp only [Nat.zero_add] at this
  exact this
theorem Books.lt0 {w : World} {g n : Nat} {qs : List Quad} (h : Books w (some ⟨g, 0, none⟩) n qs) (hn : 0 < n) : g < w.heap.size := by
  obtain ⟨b, off, e, hl, _⟩ := h.2 hn
  simp only [Option.some.injEq, Addr.mk.injEq, and_true] at e
  obtain ⟨rfl, rfl⟩ := e
  exact hl
theorem pl_none {qs : List Quad} (h : bsV qs = false) : plV qs = [] := by unfold plV; rw [h]; rfl
set_option maxRecDepth 100000 in
set_option maxHeartbeats 4000000 in
theorem FnBookPlaces_walk (w : World) (A : Option Addr) (n cap : Nat) (zs : List Int) (h : Nums .u8 w A n cap zs) :
    Calls Tryd.prog 10 #[.slice A n cap] w fun e w' => e = .returned (.bool true) ∧ Below w.heap.size w w' := by
  go_enter Tryd.func10, Tryd.ntmps10
  by_cases hn : 1048576 < n
  · have hnb : decide (1048576 < n) = true := by simpa using hn
    clear h
    go_wp2
    go_ret
    exact ⟨rfl, by (repeat (first | exact Below.refl _ _ | assumption | refine Below.alloc ?_ (by first | omega | (simp; done) | (simp; omega)) _ | refine Below.drew ?_ | refine bdN ?_ _ | refine Below.setCell ?_ (by first | omega | (simp; done) | (simp; omega)) _))⟩
  · have hnb : decide (1048576 < n) = false := by simpa using hn
    go_upto_region 4 with (go_at_call 38; refine (drawBookPlaces_ok A n cap zs _ h (by omega)).mono ?_; rintro E w1 ⟨g, k, c, qs, rfl, hB, h9, hkc, hcm, hw⟩; clear h)
    clear hn hnb
    obtain ⟨xs, hxs⟩ : ∃ xs, plV qs = xs := ⟨_, rfl⟩
    obtain ⟨V, hV⟩ : ∃ V, bsV qs = V := ⟨_, rfl⟩
    obtain ⟨l, hl⟩ : ∃ l, xs.length = l := ⟨_, rfl⟩
    have hkl := hB.1
    have hl9 : l ≤ 9 := by
      cases V
      · have := pl_none hV; rw [hxs] at this; rw [this] at hl; simp at hl; omega
      · have := (pl_good hV).1; rw [hxs] at this; omega
    have F_i : ∀ w, Books w (some ⟨g, 0, none⟩) k qs → Calls Tryd.prog 39 #[.slice (some ⟨g, 0, none⟩) k c] w (ResL1 w l xs) := fun w h => by have := BookPlaces_i _ k c qs w h (by omega) hkc; rw [hxs] at this; exact this.mono fun E w' r => r.len hl
    have F_s : ∀ w, Books w (some ⟨g, 0, none⟩) k qs → Calls Tryd.prog 40 #[.slice (some ⟨g, 0, none⟩) k c] w (ResL1 w l xs) := fun w h => by have := BookPlaces_s _ k c qs w h (by omega); rw [hxs] at this; exact this.mono fun E w' r => r.len hl
    have V_s : ∀ w, Books w (some ⟨g, 0, none⟩) k qs → Calls Tryd.prog 41 #[.slice (some ⟨g, 0, none⟩) k c] w fun e w' => e = .returned (.bool V) ∧ Below w.heap.size w w' := fun w h => by have := BooksValid_s _ k c qs w h (by omega); rw [hV] at this; exact this
    have E0 : eqL xs xs = true := by simp [eqL]
    have HX := Lib.hid hxs
    have HV := Lib.hid hV
    have HL := Lib.hid hl
    have HKL := Lib.hid hkl
    clear hV hxs hl hkl
    go_upto_if 19 with (first
      | (go_at_call 39; ((with_reducible refine (F_i _ hB).mono ?_); rintro E wk ⟨A2, c2, rfl, hI2, hb⟩; replace hB := hB.below hb; replace hw := bt hw hb; clear hb))
      | (go_at_call 40; ((with_reducible refine (F_s _ hB).mono ?_); rintro E wk ⟨A3, c3, rfl, hI3, hb⟩; replace hB := hB.below hb; replace hI2 := hI2.below hb; replace hw := bt hw hb; clear hb))
      | (go_at_call 18; ((with_reducible refine (sameInts_any _ _ _ _ _ _ xs xs _ hI2 hI3 ?_).mono ?_); (omega); rw [E0]; rintro E wk ⟨rfl, hb⟩; replace hB := hB.below hb; replace hI2 := hI2.below hb; replace hw := bt hw hb; clear hb hI3)))
    clear F_i F_s E0
    go_upto_if 22 with (go_at_call 41; ((with_reducible refine (V_s _ hB).mono ?_); rintro E wk ⟨rfl, hb⟩; replace hB := hB.below hb; replace hI2 := hI2.below hb; replace hw := bt hw hb; clear hb))
    clear V_s
    cases V
    · have hno := pl_none HV.out
      rw [HX.out] at hno
      obtain rfl := hno
      obtain rfl : 0 = l := HL.out
      clear HX HV HL
      go_wp2_with (go_at_call 19; ((with_reducible refine (alive_ok _).mono ?_); rintro E wk ⟨rfl, hb⟩; replace hw := bt hw hb; clear hb))
      go_ret; exact ⟨rfl, hw⟩
    · obtain ⟨p1, p2, p3, p4⟩ := pl_good HV.out
      rw [HX.out] at p1 p2 p3 p4
      obtain rfl : l = k := by rw [← HL.out, p1, HKL.out]
      rw [HKL.out] at p2 p3 p4
      obtain ⟨L, hL⟩ : ∃ L, bmV qs = L := ⟨_, rfl⟩
      have M_i : ∀ w, Books w (some ⟨g, 0, none⟩) l qs → Calls Tryd.prog 43 #[.slice (some ⟨g, 0, none⟩) l c] w fun E w' => E = .returned (.int .i64 L) ∧ Below w.heap.size w w' := fun w h => by have := BooksMost_i _ l c qs w h (by omega) hkc; rw [hL] at this; exact this
      rw [hL] at p4
      have P2 := Lib.hid p2
      have P3 := Lib.hid p3
      have P4 := Lib.hid p4
      have MX := Lib.hid (mxTo_spec xs)
      clear p1 p2 p3 p4 hL
      go_wp2
      go_loopw [5, 6] (fun v i wr => ∃ j : Nat, j ≤ l ∧ i = .int .i64 j ∧ v = .int .i64 (mxTo xs j) ∧ Books wr (some ⟨g, 0, none⟩) l qs ∧ Ints wr A2 l xs ∧ Below w.heap.size w wr) (fun _ i _ => l - (intOf i).toNat)
      case atStart => exact ⟨0, by omega, rfl, rfl, hB, hI2, hw⟩
      case round =>
        clear hB hI2 hw
        obtain ⟨j, hj, rfl, rfl, hB, hI2, hw⟩ := hrel
        by_cases hlt : j < l
        · have hm0 := (MX.out j).2.1
          have hm1 := (MX.out j).2.2 7 (by omega) fun t ht => by have := P2.out t (by omega); omega
          have hs := show mxTo xs (j + 1) = max (mxTo xs j) (xs.getD j 0 + 1) from rfl
          obtain ⟨ab, ao, rfl⟩ := hI2.addr (by omega)
          have hac := (hI2.cellx j hlt).1
          have hxb := P2.out j hlt
          obtain ⟨x, hx⟩ : ∃ x, xs.getD j 0 = x := ⟨_, rfl⟩
          obtain ⟨M, hM⟩ : ∃ M, mxTo xs j = M := ⟨_, rfl⟩
          rw [hx] at hac hs hxb
          rw [hM] at hm0 hm1 hs ⊢
          have HS := Lib.hid hs
          have HXX := Lib.hid hx
          have i1 : (0 : Int) ≤ (j : Int) := by omega
          have i2 : (j : Int) < (l : Int) := by omega
          clear hs hx hM
          go_wp2
          obtain ⟨M2, hM2⟩ : ∃ m, max M (x + 1) = m := ⟨_, rfl⟩
          have HNX : Hid (mxTo xs (j + 1) = M2) := by show _ = _; rw [HS.out, hM2]
          rw [hM2]
          have HAC := Lib.hid hac
          clear hM2 HS hac
          go_loopw [7] (fun i wr => ∃ i2 : Nat, i2 ≤ j ∧ i = .int .i64 i2 ∧ Books wr (some ⟨g, 0, none⟩) l qs ∧ Ints wr (some ⟨ab, ao, none⟩) l xs ∧ Below w.heap.size w wr) (fun i _ => j - (intOf i).toNat)
          case atStart => exact ⟨0, by omega, rfl, hB, hI2, hw⟩
          case round =>
            clear hB hI2 hw HAC
            obtain ⟨i, hi, rfl, hB, hI2, hw⟩ := hrel
            by_cases hlt2 : i < j
            · have d1 := (hI2.cellx j hlt).1
              have d2 := (hI2.cellx i (by omega)).1
              have d3 := (hI2.cellx j hlt).2
              have hp := P3.out i j (by omega) hlt (by omega)
              rw [HXX.out] at d1 hp
              obtain ⟨y, hy⟩ : ∃ y, xs.getD i 0 = y := ⟨_, rfl⟩
              rw [hy] at d2 hp
              obtain ⟨r0, r1, r2, r3⟩ := hB.at0 (k := i) (by omega)
              obtain ⟨s0, s1, s2, s3⟩ := hB.at0 hlt
              have hgl := hB.lt0 (by omega)
              obtain ⟨qi, hqi⟩ : ∃ q, qs.getD i q0 = q := ⟨_, rfl⟩
              obtain ⟨qj, hqj⟩ : ∃ q, qs.getD j q0 = q := ⟨_, rfl⟩
              rw [hqi] at r0 r1 r2 r3 hp
              rw [hqj] at s0 s1 s2 s3 hp
              obtain ⟨a1, b1, c1, e1⟩ := qi
              obtain ⟨a2, b2, c2', e2⟩ := qj
              have i3 : (0 : Int) ≤ (i : Int) := by omega
              have i4 : (i : Int) < (l : Int) := by omega
              have HB := Lib.hid hB
              have HI := Lib.hid hI2
              have HW := Lib.hid hw
              have O0 := fun w => Overlap_i a1 b1 c1 e1 a2 b2 c2' e2 w
              have HP : Hid (y = x → ovl b1 c1 b2 c2' = false) := hp
              clear hB hI2 hw hy hqi hqj hp
              generalize wr = W at *
              by_cases hyx : y = x
              · have t1 : (y == x) = true := by simpa using hyx
                rw [HP.out hyx] at O0
                clear HP hyx
                go_upto_region 17 with fail
                go_region_held3 (fun w' => Below (W.heap.size) (W) w' ∧ ∀ k o, k < W.heap.size → w'.cell? ⟨k, o, none⟩ = World.cell? (W) ⟨k, o, none⟩) (first | assumption | exact kp_start | (refine kp_step ?_ hb ?_; assumption; (first | omega | (simp; done) | (simp; omega))) | (refine kp_drew ?_; assumption) | (refine kp_drew (kp_of hb ?_); (first | omega | (simp; done) | (simp; omega)))) (first | (go_at_call 42; (with_reducible refine (O0 _).mono ?_); rintro e w' ⟨rfl, hb⟩))
                all_goals
                  go_wp2_with fail
                  go_roundw
                  case rel => (repeat apply Exists.intro); exact ⟨⟨i + 1, hlt2, by go_num, HB.out.below (by (refine kp_end (by assumption) ?_ (by first | omega | (simp; done) | (simp; omega)); (repeat (first | exact Below.refl _ _ | assumption | refine Below.alloc ?_ (by first | omega | (simp; done) | (simp; omega)) _ | refine Below.drew ?_ | refine bdN ?_ _ | refine Below.setCell ?_ (by first | omega | (simp; done) | (simp; omega)) _)))), HI.out.below (by (refine kp_end (by assumption) ?_ (by first | omega | (simp; done) | (simp; omega)); (repeat (first | exact Below.refl _ _ | assumption | refine Below.alloc ?_ (by first | omega | (simp; done) | (simp; omega)) _ | refine Below.drew ?_ | refine bdN ?_ _ | refine Below.setCell ?_ (by first | omega | (simp; done) | (simp; omega)) _)))), bt HW.out (by (refine kp_end (by assumption) ?_ (by first | omega | (simp; done) | (simp; omega)); (repeat (first | exact Below.refl _ _ | assumption | refine Below.alloc ?_ (by first | omega | (simp; done) | (simp; omega)) _ | refine Below.drew ?_ | refine bdN ?_ _ | refine Below.setCell ?_ (by first | omega | (simp; done) | (simp; omega)) _))))⟩, rfl⟩
                  case measure => simp [intOf]; omega
              · have t1 : (y == x) = false := by simpa using hyx
                clear HP hyx O0
                go_upto_region 17 with fail
                go_quiet (fail)
                all_goals
                  go_wp2_with fail
                  go_roundw
                  case rel => exact ⟨i + 1, hlt2, by go_num, HB.out.below (by (repeat (first | exact Below.refl _ _ | assumption | refine Below.alloc ?_ (by first | omega | (simp; done) | (simp; omega)) _ | refine Below.drew ?_ | refine bdN ?_ _ | refine Below.setCell ?_ (by first | omega | (simp; done) | (simp; omega)) _))), HI.out.below (by (repeat (first | exact Below.refl _ _ | assumption | refine Below.alloc ?_ (by first | omega | (simp; done) | (simp; omega)) _ | refine Below.drew ?_ | refine bdN ?_ _ | refine Below.setCell ?_ (by first | omega | (simp; done) | (simp; omega)) _))), bt HW.out (by (repeat (first | exact Below.refl _ _ | assumption | refine Below.alloc ?_ (by first | omega | (simp; done) | (simp; omega)) _ | refine Below.drew ?_ | refine bdN ?_ _ | refine Below.setCell ?_ (by first | omega | (simp; done) | (simp; omega)) _)))⟩
                  case measure => simp [intOf]; omega
            · obtain rfl : i = j := by omega
              go_wp2
              go_roundw
              case rel => exact ⟨i + 1, hlt, by go_num, by rw [HNX.out], hB, hI2, hw⟩
              case measure => simp [intOf]; omega
        · obtain rfl : j = l := by omega
          rw [P4.out]
          go_wp2_with (go_at_call 43; ((with_reducible refine (M_i _ hB).mono ?_); rintro E wk ⟨rfl, hb⟩; replace hw := bt hw hb; clear hb))
          go_ret
          exact ⟨ret_bool (by simp), hw⟩
end Go.Proofs.YtoiaggjjfahabaaDoor
