/- The draw for laws.FnPlanValid. No condition. -/
import Derived.Test.YtoombdhchikbmaaDoorLPV0
namespace Go.Proofs.YtoombdhchikbmaaDoor
open Go.RowKit
set_option linter.unusedVariables false
set_option maxRecDepth 100000 in
theorem drawPlanValid_ok (A : Option Addr) (n cap : Nat) (zs : List Int) (w : World) (h : Nums .u8 w A n cap zs) (hn : n ≤ 1048576) :
    Calls Tryd.prog 47 #[.slice A n cap] w fun e w' => ∃ B k c qs G m d ys P np cp rows, e = .returned (.tuple #[.slice B k c, .slice G m d, .slice P np cp]) ∧ Books w' B k qs ∧ Ints w' G m ys ∧ Tabs w' P np rows ∧ k ≤ 9 ∧ k ≤ c ∧ c ≤ maxLen ∧ m ≤ 7 ∧ m ≤ d ∧ d ≤ maxLen ∧ np ≤ 9 ∧ np ≤ cp ∧ cp ≤ maxLen ∧ (∀ i, i < np → (rows.getD i []).length = 6) ∧ Mid rows ∧ SmA qs ∧ Below w.heap.size w w' := by
  go_enter Tryd.func47, Tryd.ntmps47
  go_wp2_with (first
    | (go_at_call 63; ((with_reducible refine (opN A n cap zs _ h hn).mono ?_); rintro e w1 ⟨rfl, hr, hb, hlt⟩; clear h))
    | (go_at_call 79; ((with_reducible refine (charge_ok w.heap.size _ _ hr ?_).mono ?_); (omega); rintro e w2 ⟨B, k, c, qs, G, m, d, ys, P, np, cp, rows, rfl, hB, hI, hT, k1, k2, k3, m1, m2, m3, n1, n2, n3, h6, hmd, q1, q2, hr2, hs⟩; have hw := hb.trans hs.1; have hB2 := Lib.hid (hB _ (Stp.refl _ _)); have hI2 := Lib.hid (hI _ (Stp.refl _ _)); have hT2 := Lib.hid (hT _ (Stp.refl _ _)); clear hr hs hb hB hI hT)))
  refine bodyPost_ret (v := .tuple #[.slice B k c, .slice G m d, .slice P np cp]) (by simp [results, Tryd.results47, go_sem]) rfl ?_
  exact ⟨B, k, c, qs, G, m, d, ys, P, np, cp, rows, rfl, hB2.out, hI2.out, hT2.out, k1, k2, k3, m1, m2, m3, n1, n2, n3, h6, hmd, smA_all q1, hw⟩
end Go.Proofs.YtoombdhchikbmaaDoor
