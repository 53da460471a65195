/- The draws of tariffs and minutes, and the walks of laws.FnTariffValid, FnFeeSteps, FnFeeOf, FnFeeLong. No condition. -/
import Derived.Test.YtolnjpnaoeeanaaDoorDTar
import Derived.Test.YtolnjpnaoeeanaaDoorDMin
import Derived.Test.YtolnjpnaoeeanaaDoorAliveL
import Derived.Test.YtolnjpnaoeeanaaDoorPLawA
namespace Go.Proofs.YtolnjpnaoeeanaaDoor
open Go.RowKit
set_option linter.unusedVariables false
theorem Nums.below {k : IntKind} {w w' : World} {A : Option Addr} {n cap : Nat} {zs : List Int} (h : Nums k w A n cap zs) (hb : Below w.heap.size w w') : Nums k w' A n cap zs := by
  obtain ⟨h1, h2, h3, h4, h5⟩ := h
  refine ⟨h1, h2, h3, fun hn => ?_, h5⟩
  obtain ⟨b, off, rfl, hlt, hc⟩ := h4 hn
  exact ⟨b, off, rfl, Nat.lt_of_lt_of_le hlt hb.size, fun k hk => (hb.cell (p := ⟨b, off + k, none⟩) hlt).trans (hc k hk)⟩
set_option maxRecDepth 100000 in
theorem drawTariffValid_ok (A : Option Addr) (n cap : Nat) (zs : List Int) (w : World) (h : Nums .u8 w A n cap zs) (hn : n ≤ 1048576) :
    Calls Tryd.prog 19 #[.slice A n cap] w fun e w' => ∃ a b c d, e = .returned (.agg #[.int .i64 a, .int .i64 b, .int .i64 c, .int .i64 d]) ∧ Sm a ∧ Sm b ∧ Sm c ∧ Sm d ∧ Below w.heap.size w w' := by
  have hb0 : Below w.heap.size w (w.alloc (.cells #[.int .i64 0, .int .i64 0, .int .i64 0, .int .i64 0] 30)) := (Below.refl _ _).alloc (Nat.le_refl _) _
  have hR := Blk.new w 30 #[.int .i64 0, .int .i64 0, .int .i64 0, .int .i64 0]
  have hN := h.below hb0
  clear h
  go_enter Tryd.func19, Tryd.ntmps19
  go_wp2_with (go_at_call 53; refine (op (w.heap.size + 1) A n cap zs _ hN hn (by simp)).mono ?_; rintro e w1 ⟨rfl, hr, hb, hlt⟩; have hR1 := hR.below hb (by omega); have hw := hb0.trans (hb.mono (by omega)); clear hN hR hb0)
  go_wp2_with (go_at_call 56; refine (tariff_ok (w.heap.size + 1) 2 _ _ hr (by omega) (by omega) (by omega)).mono ?_; rintro e w2 ⟨a, b, c, d, rfl, ha, hb', hc, hd, _, hs⟩; have hR2 := hs.blk hR1 (by omega); have cR := hR2.cell; have fR := hR2.frozen; have hw2 := hw.trans (hs.1.mono (by omega)); clear hr hR1 hs hb)
  have hE := (((hR2.set_ 0 (.int .i64 a)).set_ 1 (.int .i64 b)).set_ 2 (.int .i64 c)).set_ 3 (.int .i64 d)
  simp at hE
  refine bodyPost_ret (results_cell_row rfl _ _ w.heap.size _ _ _ _ rfl hE Tryd.underlying30 rfl (by kernel_rfl)) rfl ?_
  exact ⟨a, b, c, d, rfl, ha, hb', hc, hd, by (repeat (first | exact Below.refl _ _ | assumption | refine Below.alloc ?_ (by first | omega | (simp; done) | (simp; omega)) _ | refine Below.drew ?_ | refine bdN ?_ _ | refine Below.setCell ?_ (by first | omega | (simp; done) | (simp; omega)) _))⟩
set_option maxRecDepth 100000 in
theorem drawFeeSteps_ok (A : Option Addr) (n cap : Nat) (zs : List Int) (w : World) (h : Nums .u8 w A n cap zs) (hn : n ≤ 1048576) :
    Calls Tryd.prog 29 #[.slice A n cap] w fun e w' => ∃ a b c d m, e = .returned (.tuple #[.agg #[.int .i64 a, .int .i64 b, .int .i64 c, .int .i64 d], .int .i64 m]) ∧ Sm a ∧ Sm b ∧ Sm c ∧ Sm d ∧ Sm m ∧ Below w.heap.size w w' := by
  have hb0 : Below w.heap.size w (w.alloc (.cells #[.int .i64 0, .int .i64 0, .int .i64 0, .int .i64 0] 30)) := (Below.refl _ _).alloc (Nat.le_refl _) _
  have hR := Blk.new w 30 #[.int .i64 0, .int .i64 0, .int .i64 0, .int .i64 0]
  have hN := h.below hb0
  clear h
  go_enter Tryd.func29, Tryd.ntmps29
  go_wp2_with (go_at_call 53; refine (op (w.heap.size + 1) A n cap zs _ hN hn (by simp)).mono ?_; rintro e w1 ⟨rfl, hr, hb, hlt⟩; have hR1 := hR.below hb (by omega); have hw := hb0.trans (hb.mono (by omega)); clear hN hR hb0)
  go_wp2_with (go_at_call 56; refine (tariff_ok (w.heap.size + 1) 9 _ _ hr (by omega) (by omega) (by omega)).mono ?_; rintro e w2 ⟨a, b, c, d, rfl, ha, hb', hc, hd, hr2, hs⟩; have hR2 := hs.blk hR1 (by omega); have hw2 := hw.trans (hs.1.mono (by omega)); clear hr hR1 hs hb)
  go_wp2_with (go_at_call 59; refine (minutes_ok (w.heap.size + 1) _ _ hr2 (by omega)).mono ?_; rintro e w3 ⟨m, rfl, hm, hr3, hs⟩; have hR3 := hs.blk hR2 (by omega); have cR := hR3.cell; have fR := hR3.frozen; have hw3 := hw2.trans (hs.1.mono (by omega)); clear hr2 hR2 hs)
  refine bodyPost_ret (v := .tuple #[.agg #[.int .i64 a, .int .i64 b, .int .i64 c, .int .i64 d], .int .i64 m]) (by simp [results, Tryd.results29, go_sem, cR, fR]) rfl ?_
  exact ⟨a, b, c, d, m, rfl, ha, hb', hc, hd, hm, by (repeat (first | exact Below.refl _ _ | assumption | refine Below.alloc ?_ (by first | omega | (simp; done) | (simp; omega)) _ | refine Below.drew ?_ | refine bdN ?_ _ | refine Below.setCell ?_ (by first | omega | (simp; done) | (simp; omega)) _))⟩
set_option maxRecDepth 100000 in
theorem drawFeeOf_ok (A : Option Addr) (n cap : Nat) (zs : List Int) (w : World) (h : Nums .u8 w A n cap zs) (hn : n ≤ 1048576) :
    Calls Tryd.prog 35 #[.slice A n cap] w fun e w' => ∃ a b c d m, e = .returned (.tuple #[.agg #[.int .i64 a, .int .i64 b, .int .i64 c, .int .i64 d], .int .i64 m]) ∧ Sm a ∧ Sm b ∧ Sm c ∧ Sm d ∧ Sm m ∧ Below w.heap.size w w' := by
  have hb0 : Below w.heap.size w (w.alloc (.cells #[.int .i64 0, .int .i64 0, .int .i64 0, .int .i64 0] 30)) := (Below.refl _ _).alloc (Nat.le_refl _) _
  have hR := Blk.new w 30 #[.int .i64 0, .int .i64 0, .int .i64 0, .int .i64 0]
  have hN := h.below hb0
  clear h
  go_enter Tryd.func35, Tryd.ntmps35
  go_wp2_with (go_at_call 29; refine (drawFeeSteps_ok A n cap zs _ hN hn).mono ?_; rintro e w3 ⟨a, b, c, d, m, rfl, ha, hb', hc, hd, hm, hb⟩; have hR3 := hR.below hb hR.lt; have cR := hR3.cell; have fR := hR3.frozen; have hw3 := hb0.trans (hb.mono (by simp)); clear hN hR hb0 hb)
  refine bodyPost_ret (v := .tuple #[.agg #[.int .i64 a, .int .i64 b, .int .i64 c, .int .i64 d], .int .i64 m]) (by simp [results, Tryd.results35, go_sem, cR]) rfl ?_
  exact ⟨a, b, c, d, m, rfl, ha, hb', hc, hd, hm, by (repeat (first | exact Below.refl _ _ | assumption | refine Below.alloc ?_ (by first | omega | (simp; done) | (simp; omega)) _ | refine Below.drew ?_ | refine bdN ?_ _ | refine Below.setCell ?_ (by first | omega | (simp; done) | (simp; omega)) _))⟩
set_option maxRecDepth 100000 in
theorem drawFeeLong_ok (A : Option Addr) (n cap : Nat) (zs : List Int) (w : World) (h : Nums .u8 w A n cap zs) (hn : n ≤ 1048576) :
    Calls Tryd.prog 41 #[.slice A n cap] w fun e w' => ∃ a b c d m, e = .returned (.tuple #[.agg #[.int .i64 a, .int .i64 b, .int .i64 c, .int .i64 d], .int .i64 m]) ∧ Sm a ∧ Sm b ∧ Sm c ∧ Sm d ∧ Sm m ∧ Below w.heap.size w w' := by
  have hb0 : Below w.heap.size w (w.alloc (.cells #[.int .i64 0, .int .i64 0, .int .i64 0, .int .i64 0] 30)) := (Below.refl _ _).alloc (Nat.le_refl _) _
  have hR := Blk.new w 30 #[.int .i64 0, .int .i64 0, .int .i64 0, .int .i64 0]
  have hN := h.below hb0
  clear h
  go_enter Tryd.func41, Tryd.ntmps41
  go_wp2_with (go_at_call 53; refine (op (w.heap.size + 1) A n cap zs _ hN hn (by simp)).mono ?_; rintro e w1 ⟨rfl, hr, hb, hlt⟩; have hR1 := hR.below hb (by omega); have hw := hb0.trans (hb.mono (by omega)); clear hN hR hb0)
  go_wp2_with (go_at_call 56; refine (tariff_ok (w.heap.size + 1) 9 _ _ hr (by omega) (by omega) (by omega)).mono ?_; rintro e w2 ⟨a, b, c, d, rfl, ha, hb', hc, hd, hr2, hs⟩; have hR2 := hs.blk hR1 (by omega); have hw2 := hw.trans (hs.1.mono (by omega)); clear hr hR1 hs hb)
  go_wp2_with (go_at_call 58; refine (pk (w.heap.size + 1) _ _ _ hr2 (by omega) (by omega) (by omega)).mono ?_; rintro e w3 ⟨x1, rfl, y1, z1, hr3, hs⟩; have hR3 := hs.blk hR2 (by omega); have hw3 := hw2.trans (hs.1.mono (by omega)); clear hr2 hR2 hs)
  go_wp2_with (go_at_call 58; refine (pk (w.heap.size + 1) _ _ _ hr3 (by omega) (by omega) (by omega)).mono ?_; rintro e w4 ⟨x2, rfl, y2, z2, hr4, hs⟩; have hR4 := hs.blk hR3 (by omega); have cR := hR4.cell; have fR := hR4.frozen; have hw4 := hw3.trans (hs.1.mono (by omega)); clear hr3 hR3 hs)
  refine bodyPost_ret (v := .tuple #[.agg #[.int .i64 a, .int .i64 b, .int .i64 c, .int .i64 d], .int .i64 (x1 - x2 / 19 * 300)]) (by simp [results, Tryd.results41, go_sem, cR]) rfl ?_
  exact ⟨a, b, c, d, _, rfl, ha, hb', hc, hd, by unfold Sm; omega, by (repeat (first | exact Below.refl _ _ | assumption | refine Below.alloc ?_ (by first | omega | (simp; done) | (simp; omega)) _ | refine Below.drew ?_ | refine bdN ?_ _ | refine Below.setCell ?_ (by first | omega | (simp; done) | (simp; omega)) _))⟩
end Go.Proofs.YtolnjpnaoeeanaaDoor
