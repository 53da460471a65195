/- The walk of laws.FnBooksPick. No condition. -/
import Derived.Test.YtghfdkalblipgaaDoorDBooks
import Derived.Test.YtghfdkalblipgaaDoorPick
import Derived.Test.YtghfdkalblipgaaDoorNews
import Derived.Test.YtghfdkalblipgaaDoorAliveL
import Derived.Deep.RegionLaw
namespace Go.Proofs.YtghfdkalblipgaaDoor
open Go.RowKit
set_option linter.unusedVariables false
set_option maxRecDepth 100000 in
theorem drawBooksPick_ok (A : Option Addr) (n cap : Nat) (zs : List Int) (w : World) (h : Nums .u8 w A n cap zs) (hn : n ≤ 1048576) :
    Calls Tryd.prog 18 #[.slice A n cap] w fun e w' => ∃ g k c qs p, e = .returned (.tuple #[.slice (some ⟨g, 0, none⟩) k c, .int .i64 p]) ∧ Books w' (some ⟨g, 0, none⟩) k qs ∧ k ≤ 9 ∧ k ≤ c ∧ c ≤ maxLen ∧ (-1 ≤ p ∧ p ≤ 3) ∧ Below w.heap.size w w' := by
  go_enter Tryd.func18, Tryd.ntmps18
  go_wp2_with (first
    | (go_at_call 28; ((with_reducible refine (opN A n cap zs _ h hn).mono ?_); rintro e w1 ⟨rfl, hr, hb, hlt⟩; clear h))
    | (go_at_call 38; ((with_reducible refine (books_ok w.heap.size 9 _ _ hr ?_ ?_ ?_).mono ?_); (omega); (omega); (omega); rintro e w2 ⟨g, k, c, qs, rfl, hB, k1, k2, k3, k4, hr2, hs⟩; have hs2 := hs; have HB := Lib.hid hB; clear hr hs hB))
    | (go_at_call 34; ((with_reducible refine (pk _ 4 _ _ hr2 ?_ ?_ ?_).mono ?_); (omega); (omega); (omega); rintro e w3 ⟨x1, rfl, y1, z1, hr3, hs3⟩; have hs4 := hs2.trans hs3; have hs5 := hs3; clear hr2 hs3 hs2))
    | (go_at_call 34; ((with_reducible refine (pk _ 20 _ _ hr3 ?_ ?_ ?_).mono ?_); (omega); (omega); (omega); rintro e w4 ⟨x2, rfl, y2, z2, hr4, hs6⟩; have hs7 := hs4.trans hs6; have hs8 := hs5.trans hs6; clear hr3 hs6 hs4 hs5)))
  go_ret2
  exact ⟨g, k, c, qs, _, rfl, HB.out _ hs8, k1, k2, k3, by omega, hb.trans hs7.1⟩
theorem pk_at {qs : List Quad} {p : Int} (h : 0 ≤ pkV qs p) : bsV qs = true ∧ 0 ≤ p := by
  unfold pkV at h
  split at h
  · assumption
  · omega
theorem pk_no {qs : List Quad} {p : Int} (h : pkV qs p < 0) : pkV qs p = -1 := by
  unfold pkV at h ⊢
  split at h
  · rename_i g
    have := pkTo_bd qs p g.2 (2 ^ qs.length)
    omega
  · rename_i g; rw [if_neg g]
set_option maxRecDepth 100000 in
set_option maxHeartbeats 4000000 in
theorem FnBooksPick_walk (w : World) (A : Option Addr) (n cap : Nat) (zs : List Int) (h : Nums .u8 w A n cap zs) :
    Calls Tryd.prog 5 #[.slice A n cap] w fun e w' => e = .returned (.bool true) ∧ Below w.heap.size w w' := by
  go_enter Tryd.func5, Tryd.ntmps5
  by_cases hn : 1048576 < n
  · have hnb : decide (1048576 < n) = true := by simpa using hn
    clear h
    go_wp2
    go_ret
    exact ⟨rfl, by (repeat (first | exact Below.refl _ _ | assumption | refine Below.alloc ?_ (by first | omega | (simp; done) | (simp; omega)) _ | refine Below.drew ?_ | refine bdN ?_ _ | refine Below.setCell ?_ (by first | omega | (simp; done) | (simp; omega)) _))⟩
  · have hnb : decide (1048576 < n) = false := by simpa using hn
    go_upto_region 4 with (go_at_call 18; refine (drawBooksPick_ok A n cap zs _ h (by omega)).mono ?_; rintro E w1 ⟨g, k, c, qs, p, rfl, hB, h9, hkc, hcm, hp, hw⟩; clear h)
    clear hn hnb
    have hkl := hB.1
    obtain ⟨L, hL⟩ : ∃ L, pkV qs p = L := ⟨_, rfl⟩
    have B_i : ∀ p' w, Books w (some ⟨g, 0, none⟩) k qs → Calls Tryd.prog 19 #[.slice (some ⟨g, 0, none⟩) k c, .int .i64 p'] w fun E w' => E = .returned (.int .i64 (pkV qs p')) ∧ Below w.heap.size w w' := fun p' w h => BooksPick_i _ k c qs p' w h (by omega) hkc
    have F_i := B_i p
    rw [hL] at F_i
    have F_s : ∀ w, Books w (some ⟨g, 0, none⟩) k qs → Calls Tryd.prog 20 #[.slice (some ⟨g, 0, none⟩) k c, .int .i64 p] w fun E w' => E = .returned (.int .i64 L) ∧ Below w.heap.size w w' := fun w h => by have := BooksPick_s _ k c qs p w h (by omega); rw [hL] at this; exact this
    have HL := Lib.hid hL
    clear hL
    go_upto_region 7 with (first
      | (go_at_call 19; ((with_reducible refine (F_i _ hB).mono ?_); rintro E wk ⟨rfl, hb⟩; replace hB := hB.below hb; replace hw := bt hw hb; clear hb))
      | (go_at_call 20; ((with_reducible refine (F_s _ hB).mono ?_); rintro E wk ⟨rfl, hb⟩; replace hB := hB.below hb; replace hw := bt hw hb; clear hb)))
    clear F_i F_s
    by_cases hl : L < 0
    · have e := pk_no (qs := qs) (p := p) (by rw [HL.out]; exact hl)
      rw [HL.out] at e
      subst e
      clear HL B_i
      go_wp2_with (go_at_call 12; ((with_reducible refine (alive_ok _).mono ?_); rintro E wk ⟨rfl, hb⟩; replace hw := bt hw hb; clear hb))
      go_ret
      exact ⟨rfl, hw⟩
    · have hlb : decide (L < 0) = false := by simpa using hl
      obtain ⟨hv, hp0⟩ := pk_at (qs := qs) (p := p) (by rw [HL.out]; omega)
      have q1 := pk_more hv hp0
      have q2 := (pk_all hv (bmV_nn hv)).2 (Int.le_refl _)
      have q3 := pk_zero hv
      have q4 := pk_all hv hp0
      have q5 := bmV_nn hv
      rw [HL.out] at q1 q4
      rw [hkl] at q2 q4
      have P1 := B_i (p + 1)
      have P2 := B_i (bmV qs)
      have P3 := B_i 0
      have M1 := fun w h => BooksMost_i (some ⟨g, 0, none⟩) k c qs w h (by omega) hkc
      rw [q2] at P2
      rw [q3] at P3
      obtain ⟨Mo, hMo⟩ : ∃ Mo, bmV qs = Mo := ⟨_, rfl⟩
      obtain ⟨X, hX⟩ : ∃ X, pkV qs (p + 1) = X := ⟨_, rfl⟩
      rw [hMo] at P2 M1 q4 q5
      rw [hX] at P1 q1
      have b1 : decide (L ≤ X) = true := by simpa using q1
      have hlk : (L == (k : Int)) = decide (Mo ≤ p) := by
        rw [Bool.eq_iff_iff, beq_iff_eq, decide_eq_true_iff]; exact q4
      have M2 := M1
      clear q1 q2 q3 q4 hv hMo hX B_i HL hl
      go_wp2_with (first
        | (go_at_call 19; ((with_reducible refine (P1 _ hB).mono ?_); rintro E wk ⟨rfl, hb⟩; replace hB := hB.below hb; replace hw := bt hw hb; clear hb P1))
        | (go_at_call 21; ((with_reducible refine (M1 _ hB).mono ?_); rintro E wk ⟨rfl, hb⟩; replace hB := hB.below hb; replace hw := bt hw hb; clear hb))
        | (go_at_call 19; ((with_reducible refine (P2 _ hB).mono ?_); rintro E wk ⟨rfl, hb⟩; replace hB := hB.below hb; replace hw := bt hw hb; clear hb P2))
        | (go_at_call 19; ((with_reducible refine (P3 _ hB).mono ?_); rintro E wk ⟨rfl, hb⟩; replace hB := hB.below hb; replace hw := bt hw hb; clear hb P3)))
      go_ret
      exact ⟨ret_bool (by simp), hw⟩
end Go.Proofs.YtghfdkalblipgaaDoor
