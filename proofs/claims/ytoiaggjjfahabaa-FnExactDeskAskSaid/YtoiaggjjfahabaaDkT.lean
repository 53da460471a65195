/- canTake and l6Fits: what they compute. Condition: short lists. -/
import Derived.Test.YtoiaggjjfahabaaDkW
import Derived.Test.YtoiaggjjfahabaaPDk
namespace Go.Proofs.Ytoiaggjjfahabaa
open Go.RowKit
set_option linter.unusedVariables false
/-- whether a desk with P places and these bookings can take one more -/
def ctV (P : Int) (qs : List Quad) (q : Quad) : Bool := decide (qs.length < 7) && decide (bmV (qs ++ [q]) ≤ P)
set_option maxRecDepth 100000 in
set_option maxHeartbeats 1000000 in
theorem canTake_i (P : Int) (A B : Option Addr) (n cap m cap2 : Nat) (qs : List Quad) (a b c d : Int) (w : World) (h : Books w A n qs) (hn : n ≤ 1048576) :
    Calls Try.prog 42 #[.agg #[.int .i64 P, .slice A n cap, .slice B m cap2], .agg #[.int .i64 a, .int .i64 b, .int .i64 c, .int .i64 d]] w fun e w' => e = .returned (.bool (ctV P qs ⟨a, b, c, d⟩)) ∧ Below w.heap.size w w' := by
  have hlen := h.1
  have hb1 : Below w.heap.size w (w.alloc (.cells #[.int .i64 P, .slice A n cap, .slice B m cap2] 38)) := (Below.refl _ _).alloc (Nat.le_refl _) _
  have hB1 := (Blk.new w 38 #[.int .i64 P, .slice A n cap, .slice B m cap2]).alloc (.cells #[.int .i64 a, .int .i64 b, .int .i64 c, .int .i64 d] 46)
  have hB2 := Blk.new (w.alloc (.cells #[.int .i64 P, .slice A n cap, .slice B m cap2] 38)) 46 #[.int .i64 a, .int .i64 b, .int .i64 c, .int .i64 d]
  have hb2 := hb1.alloc hb1.size (.cells #[.int .i64 a, .int .i64 b, .int .i64 c, .int .i64 d] 46)
  by_cases hlt : n < 7
  · have hc : decide ((n : Int) < 7) = true := by simp; omega
    have hv : ctV P qs ⟨a, b, c, d⟩ = decide (bmV (qs ++ [⟨a, b, c, d⟩]) ≤ P) := by unfold ctV; rw [hlen, decide_eq_true hlt, Bool.true_and]
    have WB := Lib.hid (fun w' (hb : Below w.heap.size w w') => withBook_i A n cap qs a b c d w' (h.below hb) (by omega))
    have BM : ∀ (g cc : Nat) (ys : List Quad) (w' : World), Rq w' g (n + 1) ys → ys.Perm (qs ++ [⟨a, b, c, d⟩]) → n + 1 ≤ cc → Calls Try.prog 39 #[.slice (some ⟨g, 0, none⟩) (n + 1) cc] w' fun e w'' => e = .returned (.int .i64 (bmV (qs ++ [⟨a, b, c, d⟩]))) ∧ Below w'.heap.size w' w'' := fun g cc ys w' hR hp hcc => by
      have := BooksMost_i (some ⟨g, 0, none⟩) (n + 1) cc ys w' hR.books (by omega) hcc
      rwa [bmV_perm hp] at this
    rw [hv]
    generalize bmV (qs ++ [⟨a, b, c, d⟩]) = V at *
    clear hv h hlen
    go_enter Try.func42, Try.ntmps42
    go_upto_region 1 with fail
    generalize ((w.alloc (.cells #[.int .i64 P, .slice A n cap, .slice B m cap2] 38)).alloc (.cells #[.int .i64 a, .int .i64 b, .int .i64 c, .int .i64 d] 46)) = W at *
    have k0 := hB1.cell 0
    have k1 := hB1.cell 1
    have k2 := hB1.cell 2
    have j0 := hB2.cell 0
    have j1 := hB2.cell 1
    have j2 := hB2.cell 2
    have j3 := hB2.cell 3
    simp at k0 k1 k2 j0 j1 j2 j3
    have l1 := hB1.lt
    have l2 : w.heap.size + 1 < W.heap.size := by have := hB2.lt; simp at this; exact this
    have HW := Lib.hid hb2
    clear hB1 hB2 hb1 hb2
    go_region_held3 (fun w' => Below (W.heap.size) (W) w' ∧ ∀ k o, k < W.heap.size → w'.cell? ⟨k, o, none⟩ = World.cell? (W) ⟨k, o, none⟩) (first | assumption | exact kp_start | (refine kp_step ?_ hb ?_; assumption; (first | omega | (simp; done) | (simp; omega))) | (refine kp_drew ?_; assumption) | (refine kp_drew (kp_of hb ?_); (first | omega | (simp; done) | (simp; omega)))) (first
      | (go_at_call 46; refine (WB.out _ (bt HW.out (by (refine kp_end (by assumption) ?_ (by first | omega | (simp; done) | (simp; omega)); (repeat (first | exact Below.refl _ _ | assumption | refine Below.alloc ?_ (by first | omega | (simp; done) | (simp; omega)) _ | refine Below.drew ?_ | refine bdN ?_ _ | refine Below.setCell ?_ (by first | omega | (simp; done) | (simp; omega)) _)))))).mono ?_; rintro e w' ⟨g, cc, ys, rfl, hcc, hR, hp, hb⟩)
      | (go_at_call 39; refine (BM g cc ys _ hR hp hcc).mono ?_; rintro e w' ⟨rfl, hb⟩))
    all_goals
      go_wp2_with fail
      go_ret
      exact ⟨rfl, bt HW.out (by (refine kp_end (by assumption) ?_ (by first | omega | (simp; done) | (simp; omega)); (repeat (first | exact Below.refl _ _ | assumption | refine Below.alloc ?_ (by first | omega | (simp; done) | (simp; omega)) _ | refine Below.drew ?_ | refine bdN ?_ _ | refine Below.setCell ?_ (by first | omega | (simp; done) | (simp; omega)) _))))⟩
  · have hc : decide ((n : Int) < 7) = false := by simp; omega
    have hv : ctV P qs ⟨a, b, c, d⟩ = false := by unfold ctV; rw [hlen, decide_eq_false hlt, Bool.false_and]
    rw [hv]
    clear hv h hlen
    go_enter Try.func42, Try.ntmps42
    go_upto_region 1 with fail
    go_region
    go_wp2
    go_ret
    exact ⟨rfl, by (repeat (first | exact Below.refl _ _ | assumption | refine Below.alloc ?_ (by first | omega | (simp; done) | (simp; omega)) _ | refine Below.drew ?_ | refine bdN ?_ _ | refine Below.setCell ?_ (by first | omega | (simp; done) | (simp; omega)) _))⟩
end Go.Proofs.Ytoiaggjjfahabaa
