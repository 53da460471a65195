/- The draw of a tariff, a stay, a time and an amount. No condition. -/
import Derived.Test.YtnagghnmlcnbnaaDoorDNow
namespace Go.Proofs.YtnagghnmlcnbnaaDoor
open Go.RowKit
set_option linter.unusedVariables false
set_option maxRecDepth 100000 in
set_option maxHeartbeats 4000000 in
theorem drawPayStay_ok (A : Option Addr) (n cap : Nat) (zs : List Int) (w : World) (h : Nums .u8 w A n cap zs) (hn : n ≤ 1048576) :
    Calls Tryd.prog 19 #[.slice A n cap] w fun E w' => ∃ a b c d e f g m z, E = .returned (.tuple #[.agg #[.int .i64 a, .int .i64 b, .int .i64 c, .int .i64 d], .agg #[.int .i64 e, .int .i64 f, .int .i64 g], .int .i64 m, .int .i64 z]) ∧ (Sm a ∧ Sm b ∧ Sm c ∧ Sm d ∧ Sm e ∧ Sm f ∧ Sm g) ∧ Below w.heap.size w w' := by
  have hb0 : Below w.heap.size w ((w.alloc (.cells #[.int .i64 0, .int .i64 0, .int .i64 0, .int .i64 0] 24)).alloc (.cells #[.int .i64 0, .int .i64 0, .int .i64 0] 26)) := by (repeat (first | exact Below.refl _ _ | assumption | refine Below.alloc ?_ (by first | omega | (simp; done) | (simp; omega)) _ | refine Below.drew ?_ | refine bdN ?_ _ | refine Below.setCell ?_ (by first | omega | (simp; done) | (simp; omega)) _))
  have hR := (Blk.new w 24 #[.int .i64 0, .int .i64 0, .int .i64 0, .int .i64 0]).alloc (.cells #[.int .i64 0, .int .i64 0, .int .i64 0] 26)
  have hQ : Blk ((w.alloc (.cells #[.int .i64 0, .int .i64 0, .int .i64 0, .int .i64 0] 24)).alloc (.cells #[.int .i64 0, .int .i64 0, .int .i64 0] 26)) (w.heap.size + 1) 26 #[.int .i64 0, .int .i64 0, .int .i64 0] := by
    have := Blk.new (w.alloc (.cells #[.int .i64 0, .int .i64 0, .int .i64 0, .int .i64 0] 24)) 26 #[.int .i64 0, .int .i64 0, .int .i64 0]
    simpa using this
  have hN := h.keep hb0
  clear h
  go_enter Tryd.func19, Tryd.ntmps19
  go_wp2_with (go_at_call 61; refine (op (w.heap.size + 2) A n cap zs _ hN hn (by simp)).mono ?_; rintro e w1 ⟨rfl, hr, hb, hlt⟩; replace hR := hR.below hb (by omega); replace hQ := hQ.below hb (by omega); have hw := hb0.trans (hb.mono (by omega)); clear hN hb0)
  go_wp2_with (go_at_call 62; ((with_reducible refine (tariff_ok (w.heap.size + 2) 14 _ _ hr ?_ ?_ ?_).mono ?_); (omega); (omega); (omega); rintro e w2 ⟨a, b, c, d, rfl, ma, mb, mc, md, hr2, hs⟩; replace hR := hs.blk hR (by omega); replace hQ := hs.blk hQ (by omega); have hw2 := hw.trans (hs.1.mono (by omega)); clear hr hs hb hw))
  have hl2 := hr2.lt
  have hT := Blk.new w2 24 #[.int .i64 a, .int .i64 b, .int .i64 c, .int .i64 d]
  replace hR := hR.alloc (.cells #[.int .i64 a, .int .i64 b, .int .i64 c, .int .i64 d] 24)
  replace hQ := hQ.alloc (.cells #[.int .i64 a, .int .i64 b, .int .i64 c, .int .i64 d] 24)
  replace hw2 := hw2.alloc hw2.size (.cells #[.int .i64 a, .int .i64 b, .int .i64 c, .int .i64 d] 24)
  replace hr2 := hr2.alloc (.cells #[.int .i64 a, .int .i64 b, .int .i64 c, .int .i64 d] 24)
  go_upto_region 4 with (go_at_call 63; ((with_reducible refine (stay_ok (w.heap.size + 2) 14 _ _ hr2 ?_ ?_ ?_).mono ?_); (omega); (omega); (omega); rintro e w3 ⟨e, f, g, rfl, me, mf, mg, hr3, hs⟩; replace hR := hs.blk hR (by omega); replace hQ := hs.blk hQ (by omega); replace hT := hs.blk hT (by omega); have hw3 := hw2.trans (hs.1.mono (by omega)); clear hr2 hs hw2))
  have hl3 := hr3.lt
  have T : D3 w (w3.alloc (.cells #[.int .i64 e, .int .i64 f, .int .i64 g] 26)) (w.heap.size + 2) (0 + 10 + 10) w2.heap.size w3.heap.size a b c d e f g :=
    ⟨hr3.alloc _, hT.alloc _, Blk.new _ _ _, hR.alloc _, hQ.alloc _, hw3.alloc hw3.size _, by omega, by omega, by omega⟩
  clear hR hQ hT hw3 hr3
  generalize w3.alloc (.cells #[.int .i64 e, .int .i64 f, .int .i64 g] 26) = W at *
  generalize w2.heap.size = s at *
  generalize w3.heap.size = q at *
  have cT := T.2.1.cell
  have cS := T.2.2.1.cell
  go_cut [4, 5] (fun v v2 wx => ∃ m z, v = .int .i64 m ∧ v2 = .int .i64 z ∧ Blk wx w.heap.size 24 #[.int .i64 a, .int .i64 b, .int .i64 c, .int .i64 d] ∧ Blk wx (w.heap.size + 1) 26 #[.int .i64 e, .int .i64 f, .int .i64 g] ∧ Below w.heap.size w wx)
  case first =>
    go_region_with (first
      | (go_at_call 64; ((with_reducible refine (now_ok (w.heap.size + 2) e f g _ _ (D3.rb (D3.drew T)) ?_).mono ?_); (omega); rintro E w4 ⟨m, rfl, hr, hs⟩; replace T := D3.step (D3.drew T) hr hs; clear hr hs cT cS; have cT := T.2.1.cell; have cS := T.2.2.1.cell; (try clear cR fR cQ fQ); have cR := T.2.2.2.1.cell; have fR := T.2.2.2.1.frozen; have cQ := T.2.2.2.2.1.cell; have fQ := T.2.2.2.2.1.frozen))
      | (go_at_call 71; ((with_reducible refine (amount_ok (w.heap.size + 2) _ _ (D3.rb T) ?_).mono ?_); (omega); rintro E w5 ⟨z, rfl, hr, hs⟩; replace T := D3.step T hr hs; clear hr hs cT cS; have cT := T.2.1.cell; have cS := T.2.2.1.cell; (try clear cR fR cQ fQ); have cR := T.2.2.2.1.cell; have fR := T.2.2.2.1.frozen; have cQ := T.2.2.2.2.1.cell; have fQ := T.2.2.2.2.1.frozen)))
    all_goals (
      go_wp2_with fail
      go_meet
      refine ⟨_, _, rfl, rfl, ?_, ?_, ?_⟩
      · have hE := ((((((T.2.2.2.1.set_ 0 (.int .i64 a)).set_ 1 (.int .i64 b)).set_ 2 (.int .i64 c)).set_ 3 (.int .i64 d)).far (p := ⟨w.heap.size + 1, 0, none⟩) (by simp) (.int .i64 e)).far (p := ⟨w.heap.size + 1, 1, none⟩) (by simp) (.int .i64 f)).far (p := ⟨w.heap.size + 1, 2, none⟩) (by simp) (.int .i64 g)
        simpa using hE
      · have hE := ((((((T.2.2.2.2.1.far (p := ⟨w.heap.size, 0, none⟩) (by simp) (.int .i64 a)).far (p := ⟨w.heap.size, 1, none⟩) (by simp) (.int .i64 b)).far (p := ⟨w.heap.size, 2, none⟩) (by simp) (.int .i64 c)).far (p := ⟨w.heap.size, 3, none⟩) (by simp) (.int .i64 d)).set_ 0 (.int .i64 e)).set_ 1 (.int .i64 f)).set_ 2 (.int .i64 g)
        simpa using hE
      · exact ((((((T.2.2.2.2.2.1.setCell (Nat.le_refl _) _).setCell (Nat.le_refl _) _).setCell (Nat.le_refl _) _).setCell (Nat.le_refl _) _).setCell (Nat.le_succ _) _).setCell (Nat.le_succ _) _).setCell (Nat.le_succ _) _)
  case rest =>
    obtain ⟨m, z, rfl, rfl, k1, k2, k3⟩ := hcut
    have c1 := k1.cell
    have c2 := k2.cell
    go_wp2_with fail
    refine bodyPost_ret (v := .tuple #[.agg #[.int .i64 a, .int .i64 b, .int .i64 c, .int .i64 d], .agg #[.int .i64 e, .int .i64 f, .int .i64 g], .int .i64 m, .int .i64 z]) (by simp [results, Tryd.results19, go_sem, c1, c2]) rfl ?_
    exact ⟨a, b, c, d, e, f, g, m, z, rfl, ⟨ma, mb, mc, md, me, mf, mg⟩, k3⟩
end Go.Proofs.YtnagghnmlcnbnaaDoor
