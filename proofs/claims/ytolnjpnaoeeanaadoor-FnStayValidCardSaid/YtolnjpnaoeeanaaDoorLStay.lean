/- The walk of laws.FnStayValid. No condition. -/
import Derived.Test.YtolnjpnaoeeanaaDoorDSta
import Derived.Test.YtolnjpnaoeeanaaDoorAliveL
import Derived.Test.YtolnjpnaoeeanaaDoorSc
namespace Go.Proofs.YtolnjpnaoeeanaaDoor
open Go.RowKit
set_option linter.unusedVariables false
set_option maxRecDepth 100000 in
theorem drawStayValid_ok (A : Option Addr) (n cap : Nat) (zs : List Int) (w : World) (h : Nums .u8 w A n cap zs) (hn : n ≤ 1048576) :
    Calls Tryd.prog 15 #[.slice A n cap] w fun e w' => ∃ a b c, e = .returned (.agg #[.int .i64 a, .int .i64 b, .int .i64 c]) ∧ Sm a ∧ Sm b ∧ Sm c ∧ Below w.heap.size w w' := by
  have hb0 : Below w.heap.size w (w.alloc (.cells #[.int .i64 0, .int .i64 0, .int .i64 0] 24)) := (Below.refl _ _).alloc (Nat.le_refl _) _
  have hR := Blk.new w 24 #[.int .i64 0, .int .i64 0, .int .i64 0]
  have hN : Nums .u8 (w.alloc (.cells #[.int .i64 0, .int .i64 0, .int .i64 0] 24)) A n cap zs := by
    obtain ⟨h1, h2, h3, h4, h5⟩ := h
    refine ⟨h1, h2, h3, fun hn => ?_, h5⟩
    obtain ⟨b, off, rfl, hlt, hc⟩ := h4 hn
    exact ⟨b, off, rfl, Nat.lt_of_lt_of_le hlt hb0.size, fun k hk => (hb0.cell (p := ⟨b, off + k, none⟩) hlt).trans (hc k hk)⟩
  clear h
  go_enter Tryd.func15, Tryd.ntmps15
  go_wp2_with (go_at_call 53; refine (op (w.heap.size + 1) A n cap zs _ hN hn (by simp)).mono ?_; rintro e w1 ⟨rfl, hr, hb, hlt⟩; have hR1 := hR.below hb (by omega); have hw := hb0.trans (hb.mono (by omega)); clear hN hR hb0)
  go_wp2_with (go_at_call 52; refine (stay_ok (w.heap.size + 1) 2 _ _ hr (by omega) (by omega) (by omega)).mono ?_; rintro e w2 ⟨a, b, c, rfl, ha, hb', hc, _, hs⟩; have hR2 := hs.blk hR1 (by omega); have b0 := hR2.cell 0; have b1 := hR2.cell 1; have b2 := hR2.cell 2; have g0 := hR2.frozen 0; have g1 := hR2.frozen 1; have g2 := hR2.frozen 2; simp at b0 b1 b2; have hw2 := hw.trans (hs.1.mono (by omega)); clear hr hR1 hs hb)
  have hE := ((hR2.set_ 0 (.int .i64 a)).set_ 1 (.int .i64 b)).set_ 2 (.int .i64 c)
  simp at hE
  refine bodyPost_ret (results_cell_row rfl _ _ w.heap.size _ _ _ _ rfl hE Tryd.underlying24 rfl (by kernel_rfl)) rfl ?_
  exact ⟨a, b, c, rfl, ha, hb', hc, by (repeat (first | exact Below.refl _ _ | assumption | refine Below.alloc ?_ (by first | omega | (simp; done) | (simp; omega)) _ | refine Below.drew ?_ | refine bdN ?_ _ | refine Below.setCell ?_ (by first | omega | (simp; done) | (simp; omega)) _))⟩
set_option maxRecDepth 100000 in
theorem FnStayValid_walk (w : World) (A : Option Addr) (n cap : Nat) (zs : List Int) (h : Nums .u8 w A n cap zs) :
    Calls Tryd.prog 3 #[.slice A n cap] w fun e w' => e = .returned (.bool true) ∧ Below w.heap.size w w' := by
  go_enter Tryd.func3, Tryd.ntmps3
  by_cases hn : 1048576 < n
  · have hnb : decide (1048576 < n) = true := by simpa using hn
    clear h
    go_wp2
    go_ret
    exact ⟨rfl, by (repeat (first | exact Below.refl _ _ | assumption | refine Below.alloc ?_ (by first | omega | (simp; done) | (simp; omega)) _ | refine Below.drew ?_ | refine bdN ?_ _ | refine Below.setCell ?_ (by first | omega | (simp; done) | (simp; omega)) _))⟩
  · have hnb : decide (1048576 < n) = false := by simpa using hn
    go_wp2_with (first
      | (go_at_call 15; refine (drawStayValid_ok A n cap zs _ h (by omega)).mono ?_; rintro e w1 ⟨a, b, c, rfl, ha, hb1, hc, hw⟩; have hS := Blk.new w1 24 #[.int .i64 a, .int .i64 b, .int .i64 c]; replace hw := hw.alloc hw.size (.cells #[.int .i64 a, .int .i64 b, .int .i64 c] 24); clear h)
      | (go_at_call 16; refine (StayValid_i _ _ _ _).mono ?_; rintro e wk ⟨rfl, hb⟩; replace hS := hS.below hb hS.lt; have c0 := hS.cell 0; have c1 := hS.cell 1; have c2 := hS.cell 2; simp at c0 c1 c2; replace hw := bt hw (hb.mono (Nat.le_refl _)); clear hb)
      | (go_at_call 17; refine (StayValid_s _ _ _ _).mono ?_; rintro e wk ⟨rfl, hb⟩; replace hS := hS.below hb hS.lt; have c0 := hS.cell 0; have c1 := hS.cell 1; have c2 := hS.cell 2; simp at c0 c1 c2; replace hw := bt hw hb; clear hb)
      | (go_at_call 18; refine (alive_ok _).mono ?_; rintro e wk ⟨rfl, hb⟩; replace hw := bt hw hb; clear hb))
    all_goals (
      have e1 : wrap64 (a - 1) = a - 1 := IntWalk.wrap64_in _ (by unfold Sm at ha; omega)
      clear ha hb1 hc hS
      first
        | (go_ret; exact ⟨rfl, hw⟩)
        | (exfalso; clear hw hnb; simp [sv, e1] at *; omega))
end Go.Proofs.YtolnjpnaoeeanaaDoor
