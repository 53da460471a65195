/- The draws of bookings, and the walk of laws.FnBookValid. No condition. -/
import Derived.Test.YtolnjpnaoeeanaaDoorDBook
import Derived.Test.YtolnjpnaoeeanaaDoorAliveL
import Derived.Test.YtolnjpnaoeeanaaDoorSc
namespace Go.Proofs.YtolnjpnaoeeanaaDoor
open Go.RowKit
set_option linter.unusedVariables false
theorem Nums.lower {k : IntKind} {w w' : World} {A : Option Addr} {n cap : Nat} {zs : List Int} (h : Nums k w A n cap zs) (hb : Below w.heap.size w w') : Nums k w' A n cap zs := by
  obtain ⟨h1, h2, h3, h4, h5⟩ := h
  refine ⟨h1, h2, h3, fun hn => ?_, h5⟩
  obtain ⟨b, off, rfl, hlt, hc⟩ := h4 hn
  exact ⟨b, off, rfl, Nat.lt_of_lt_of_le hlt hb.size, fun k hk => (hb.cell (p := ⟨b, off + k, none⟩) hlt).trans (hc k hk)⟩
set_option maxRecDepth 100000 in
theorem drawBookValid_ok (A : Option Addr) (n cap : Nat) (zs : List Int) (w : World) (h : Nums .u8 w A n cap zs) (hn : n ≤ 1048576) :
    Calls Tryd.prog 22 #[.slice A n cap] w fun e w' => ∃ a b c d, e = .returned (.agg #[.int .i64 a, .int .i64 b, .int .i64 c, .int .i64 d]) ∧ Sm a ∧ Sm b ∧ Sm c ∧ Sm d ∧ Below w.heap.size w w' := by
  have hb0 : Below w.heap.size w (w.alloc (.cells #[.int .i64 0, .int .i64 0, .int .i64 0, .int .i64 0] 34)) := (Below.refl _ _).alloc (Nat.le_refl _) _
  have hR := Blk.new w 34 #[.int .i64 0, .int .i64 0, .int .i64 0, .int .i64 0]
  have hN := h.lower hb0
  clear h
  go_enter Tryd.func22, Tryd.ntmps22
  go_wp2_with (go_at_call 53; refine (op (w.heap.size + 1) A n cap zs _ hN hn (by simp)).mono ?_; rintro e w1 ⟨rfl, hr, hb, hlt⟩; have hR1 := hR.below hb (by omega); have hw := hb0.trans (hb.mono (by omega)); clear hN hR hb0)
  go_wp2_with (go_at_call 58; refine (pk (w.heap.size + 1) _ _ _ hr (by omega) (by omega) (by omega)).mono ?_; rintro e w2 ⟨x, rfl, hx, hx', hr2, hs⟩; have hR2 := hs.blk hR1 (by omega); have hw2 := hw.trans (hs.1.mono (by omega)); clear hr hR1 hs hb)
  have hi : Sm (1 + x) := by unfold Sm; omega
  go_wp2_with (go_at_call 57; refine (book_ok (w.heap.size + 1) _ 2 _ _ hr2 (by omega) hi (by omega) (by omega)).mono ?_; rintro e w3 ⟨a, b, c, d, rfl, ha, hb', hc, hd, _, hs⟩; have hR3 := hs.blk hR2 (by omega); have cR := hR3.cell; have fR := hR3.frozen; have hw3 := hw2.trans (hs.1.mono (by omega)); clear hr2 hR2 hs)
  have hE := (((hR3.set_ 0 (.int .i64 a)).set_ 1 (.int .i64 b)).set_ 2 (.int .i64 c)).set_ 3 (.int .i64 d)
  simp at hE
  refine bodyPost_ret (results_cell_row rfl _ _ w.heap.size _ _ _ _ rfl hE Tryd.underlying34 rfl (by kernel_rfl)) rfl ?_
  exact ⟨a, b, c, d, rfl, ha, hb', hc, hd, by (repeat (first | exact Below.refl _ _ | assumption | refine Below.alloc ?_ (by first | omega | (simp; done) | (simp; omega)) _ | refine Below.drew ?_ | refine bdN ?_ _ | refine Below.setCell ?_ (by first | omega | (simp; done) | (simp; omega)) _))⟩
set_option maxRecDepth 100000 in
theorem FnBookValid_walk (w : World) (A : Option Addr) (n cap : Nat) (zs : List Int) (h : Nums .u8 w A n cap zs) :
    Calls Tryd.prog 5 #[.slice A n cap] w fun e w' => e = .returned (.bool true) ∧ Below w.heap.size w w' := by
  go_enter Tryd.func5, Tryd.ntmps5
  by_cases hn : 1048576 < n
  · have hnb : decide (1048576 < n) = true := by simpa using hn
    clear h
    go_wp2
    go_ret
    exact ⟨rfl, by (repeat (first | exact Below.refl _ _ | assumption | refine Below.alloc ?_ (by first | omega | (simp; done) | (simp; omega)) _ | refine Below.drew ?_ | refine bdN ?_ _ | refine Below.setCell ?_ (by first | omega | (simp; done) | (simp; omega)) _))⟩
  · have hnb : decide (1048576 < n) = false := by simpa using hn
    go_wp2_with (go_at_call 22; refine (drawBookValid_ok A n cap zs _ h (by omega)).mono ?_; rintro e w1 ⟨a, b, c, d, rfl, ha, hb1, hc, hd, hw⟩; have hS := Blk.new w1 34 #[.int .i64 a, .int .i64 b, .int .i64 c, .int .i64 d]; replace hw := hw.alloc hw.size (.cells #[.int .i64 a, .int .i64 b, .int .i64 c, .int .i64 d] 34); have cS := hS.cell; clear h)
    unfold Sm at ha hb1 hc hd
    have e1 : bv a b b d = false := by unfold bv; rw [decide_eq_false_iff_not]; omega
    by_cases hv : bv a b c d = true
    · have e2 : bv a b (b + 1) d = true := by unfold bv at hv ⊢; rw [decide_eq_true_iff] at hv ⊢; omega
      go_wp2_with (first
        | (go_at_call 23; ((with_reducible refine (BookValid_i a b c d _).mono ?_); rintro e wk ⟨rfl, hb⟩; replace hS := hS.below hb hS.lt; (try clear cS); have cS := hS.cell; replace hw := bt hw hb; clear hb))
        | (go_at_call 24; ((with_reducible refine (BookValid_s a b c d _).mono ?_); rintro e wk ⟨rfl, hb⟩; replace hS := hS.below hb hS.lt; (try clear cS); have cS := hS.cell; have hl := hS.lt; replace hw := bt hw hb; clear hb))
        | (go_at_call 23; ((with_reducible refine (BookValid_i a b (b + 1) d _).mono ?_); rintro e wx ⟨rfl, hb⟩; obtain ⟨hc, hf⟩ := bcell hb; have hw2 := Lib.hid hb; clear hb))
        | (go_at_call 23; ((with_reducible refine (BookValid_i a b b d _).mono ?_); rintro e wy ⟨rfl, hb⟩; have hw3 := Lib.hid hb; clear hb))
        | (go_at_call 18; ((with_reducible refine (alive_ok _).mono ?_); rintro e wz ⟨rfl, hb⟩; have hw4 := Lib.hid hb; clear hb)))
      all_goals (go_ret; exact ⟨rfl, bt (bt (bt ((hw.alloc hw.size _).alloc (by have := hw.size; simp; omega) _) hw2.out) hw3.out) hw4.out⟩)
    · replace hv : bv a b c d = false := by simpa using hv
      go_wp2_with (first
        | (go_at_call 23; ((with_reducible refine (BookValid_i a b c d _).mono ?_); rintro e wk ⟨rfl, hb⟩; replace hS := hS.below hb hS.lt; (try clear cS); have cS := hS.cell; replace hw := bt hw hb; clear hb))
        | (go_at_call 24; ((with_reducible refine (BookValid_s a b c d _).mono ?_); rintro e wk ⟨rfl, hb⟩; replace hS := hS.below hb hS.lt; (try clear cS); have cS := hS.cell; have hl := hS.lt; replace hw := bt hw hb; clear hb))
        | (go_at_call 23; ((with_reducible refine (BookValid_i a b (b + 1) d _).mono ?_); rintro e wx ⟨rfl, hb⟩; obtain ⟨hc, hf⟩ := bcell hb; have hw2 := Lib.hid hb; clear hb))
        | (go_at_call 23; ((with_reducible refine (BookValid_i a b b d _).mono ?_); rintro e wy ⟨rfl, hb⟩; have hw3 := Lib.hid hb; clear hb))
        | (go_at_call 18; ((with_reducible refine (alive_ok _).mono ?_); rintro e wz ⟨rfl, hb⟩; have hw4 := Lib.hid hb; clear hb)))
      all_goals (go_ret; exact ⟨rfl, bt (bt ((hw.alloc hw.size _).alloc (by have := hw.size; simp; omega) _) hw3.out) hw4.out⟩)
end Go.Proofs.YtolnjpnaoeeanaaDoor
