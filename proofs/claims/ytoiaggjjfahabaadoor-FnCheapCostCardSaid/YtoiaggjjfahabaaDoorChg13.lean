/- LoadCost: what both compute. Conditions: short lists. -/
import Derived.Test.YtoiaggjjfahabaaDoorPChg
import Derived.Test.YtoiaggjjfahabaaDoorChg5
import Derived.Deep.RegionLaw
import Derived.Test.YtoiaggjjfahabaaDoorChg8
namespace Go.Proofs.YtoiaggjjfahabaaDoor
open Go.RowKit
set_option linter.unusedVariables false
def lcoV (ls ps : List Int) : Int := if fvV ls = true ∧ fvV ps = true then costTo ls ps 6 else -1
theorem cost_bd {ls ps : List Int} (h1 : ∀ k, 0 ≤ ls.getD k 0 ∧ ls.getD k 0 ≤ 30) (h2 : ∀ k, 0 ≤ ps.getD k 0 ∧ ps.getD k 0 ≤ 30) (h : Nat) : 0 ≤ costTo ls ps h ∧ costTo ls ps h ≤ 900 * h := by
  induction h with
  | zero => simp [costTo]
  | succ h ih =>
    have a := h1 h
    have b := h2 h
    have e : costTo ls ps (h + 1) = costTo ls ps h + ls.getD h 0 * ps.getD h 0 := rfl
    have g1 := Int.mul_nonneg a.1 b.1
    have g2 := Int.mul_le_mul a.2 b.2 b.1 (by omega : (0 : Int) ≤ 30)
    rw [e]; omega
set_option maxRecDepth 100000 in
set_option maxHeartbeats 2000000 in
theorem LoadCost_i (A C : Option Addr) (n c1 m c2 : Nat) (ls ps : List Int) (w : World) (h : Ints w A n ls) (hC : Ints w C m ps) (hn : n ≤ 1048576) (hm : m ≤ 1048576) :
    Calls Tryd.prog 34 #[.slice A n c1, .slice C m c2] w fun e w' => e = .returned (.int .i64 (lcoV ls ps)) ∧ Below w.heap.size w w' := by
  have K1 := fun w h => FeedValid_i A n c1 ls w h hn
  have K2 := fun w h => FeedValid_i C m c2 ps w h hm
  by_cases v1 : fvV ls = true
  · rw [v1] at K1
    by_cases v2 : fvV ps = true
    · rw [v2] at K2
      have n6 : n = 6 := by rw [← h.1]; exact (fv_at v1).1
      have m6 : m = 6 := by rw [← hC.1]; exact (fv_at v2).1
      subst n6
      subst m6
      have b1 := (fv_at v1).2
      have b2 := (fv_at v2).2
      have hv : Hid (lcoV ls ps = costTo ls ps 6) := by show _ = _; unfold lcoV; rw [if_pos ⟨v1, v2⟩]
      have bd := Lib.hid (cost_bd b1 b2)
      have HB1 := Lib.hid b1
      have HB2 := Lib.hid b2
      clear v1 v2 b1 b2
      obtain ⟨gb, go, rfl⟩ := h.addr (by omega)
      obtain ⟨mb, mo, rfl⟩ := hC.addr (by omega)
      go_enter Tryd.func34, Tryd.ntmps34
      go_wp2_with (first
        | (go_at_call 58; refine (K1 _ h).mono ?_; rintro e w1 ⟨rfl, hb1⟩; clear K1)
        | (go_at_call 58; refine (K2 _ (hC.below hb1)).mono ?_; rintro e w2 ⟨rfl, hb2⟩; replace hb1 := bt hb1 hb2; clear K2 hb2))
      go_loopw [5, 18] (fun v i wr => ∃ j : Nat, j ≤ 6 ∧ i = .int .i64 j ∧ v = .int .i64 (costTo ls ps j) ∧ Below w.heap.size w wr) (fun _ i _ => 6 - (intOf i).toNat)
      case atStart => exact ⟨0, by omega, rfl, rfl, hb1⟩
      case round =>
        clear hb1
        obtain ⟨j, hj, rfl, rfl, hb⟩ := hrel
        by_cases hlt : j < 6
        · have c1 := ((h.below hb).cellx j hlt).1
          have c2 := ((hC.below hb).cellx j hlt).1
          have x1 := HB1.out j
          have x2 := HB2.out j
          have bj := bd.out j
          have hs := show costTo ls ps (j + 1) = costTo ls ps j + ls.getD j 0 * ps.getD j 0 from rfl
          obtain ⟨x, hx⟩ : ∃ x, ls.getD j 0 = x := ⟨_, rfl⟩
          obtain ⟨y, hy⟩ : ∃ y, ps.getD j 0 = y := ⟨_, rfl⟩
          obtain ⟨F, hF⟩ : ∃ F, costTo ls ps j = F := ⟨_, rfl⟩
          rw [hx] at c1 x1 hs
          rw [hy] at c2 x2 hs
          rw [hF] at bj hs ⊢
          have g1 := Int.mul_nonneg x1.1 x2.1
          have g2 := Int.mul_le_mul x1.2 x2.2 x2.1 (by omega : (0 : Int) ≤ 30)
          have u1 : IntKind.i64.wrap (x * y) = x * y := IntWalk.i64_in _ (by omega)
          have u2 : IntKind.i64.wrap (F + x * y) = F + x * y := IntWalk.i64_in _ (by omega)
          have i1 : (0 : Int) ≤ (j : Int) := by omega
          have i2 : (j : Int) < (6 : Int) := by omega
          have HS := Lib.hid hs
          clear hs hx hy hF g1 g2
          go_wp2
          go_roundw
          case rel => exact ⟨j + 1, hlt, by go_num, by rw [HS.out], hb⟩
          case measure => simp [intOf]; omega
        · obtain rfl : j = 6 := by omega
          go_wp2
          go_ret
          exact ⟨ret_int (by rw [hv.out]), hb⟩
    · have v2' : fvV ps = false := by simpa using v2
      rw [v2'] at K2
      have hv : Hid (lcoV ls ps = -1) := by show _ = _; unfold lcoV; rw [if_neg (fun g => v2 g.2)]
      clear v1 v2 v2'
      go_enter Tryd.func34, Tryd.ntmps34
      go_wp2_with (first
        | (go_at_call 58; refine (K1 _ h).mono ?_; rintro e w1 ⟨rfl, hb1⟩; clear K1)
        | (go_at_call 58; refine (K2 _ (hC.below hb1)).mono ?_; rintro e w2 ⟨rfl, hb2⟩; replace hb1 := bt hb1 hb2; clear K2 hb2))
      go_ret
      exact ⟨ret_int (by rw [hv.out]), hb1⟩
  · have v1' : fvV ls = false := by simpa using v1
    rw [v1'] at K1
    have hv : Hid (lcoV ls ps = -1) := by show _ = _; unfold lcoV; rw [if_neg (fun g => v1 g.1)]
    clear v1 v1' K2
    go_enter Tryd.func34, Tryd.ntmps34
    go_wp2_with (go_at_call 58; refine (K1 _ h).mono ?_; rintro e w1 ⟨rfl, hb1⟩; clear K1)
    go_ret
    exact ⟨ret_int (by rw [hv.out]), hb1⟩
end Go.Proofs.YtoiaggjjfahabaaDoor
/- LoadCost of the reference: what it computes. Conditions: short lists. -/
namespace Go.Proofs.YtoiaggjjfahabaaDoor
open Go.RowKit
set_option linter.unusedVariables false
set_option maxRecDepth 100000 in
set_option maxHeartbeats 2000000 in
theorem LoadCost_s (A C : Option Addr) (n c1 m c2 : Nat) (ls ps : List Int) (w : World) (h : Ints w A n ls) (hC : Ints w C m ps) (hn : n ≤ 1048576) (hm : m ≤ 1048576) :
    Calls Tryd.prog 65 #[.slice A n c1, .slice C m c2] w fun e w' => e = .returned (.int .i64 (lcoV ls ps)) ∧ Below w.heap.size w w' := by
  have K1 := fun w h => FeedValid_s A n c1 ls w h hn
  have K2 := fun w h => FeedValid_s C m c2 ps w h hm
  by_cases v1 : fvV ls = true
  · rw [v1] at K1
    by_cases v2 : fvV ps = true
    · rw [v2] at K2
      have n6 : n = 6 := by rw [← h.1]; exact (fv_at v1).1
      have m6 : m = 6 := by rw [← hC.1]; exact (fv_at v2).1
      subst n6
      subst m6
      have b1 := (fv_at v1).2
      have b2 := (fv_at v2).2
      have hv : Hid (lcoV ls ps = costTo ls ps 6) := by show _ = _; unfold lcoV; rw [if_pos ⟨v1, v2⟩]
      have bd := Lib.hid (cost_bd b1 b2)
      have HB1 := Lib.hid b1
      have HB2 := Lib.hid b2
      clear v1 v2 b1 b2
      obtain ⟨gb, go, rfl⟩ := h.addr (by omega)
      obtain ⟨mb, mo, rfl⟩ := hC.addr (by omega)
      go_enter Tryd.func65, Tryd.ntmps65
      go_wp2_with (first
        | (go_at_call 60; refine (K1 _ h).mono ?_; rintro e w1 ⟨rfl, hb1⟩; clear K1)
        | (go_at_call 60; refine (K2 _ (hC.below hb1)).mono ?_; rintro e w2 ⟨rfl, hb2⟩; replace hb1 := bt hb1 hb2; clear K2 hb2))
      go_loopw [5, 6] (fun v i wr => ∃ j : Nat, j ≤ 6 ∧ i = .int .i64 j ∧ v = .int .i64 (costTo ls ps j) ∧ Below w.heap.size w wr) (fun _ i _ => 6 - (intOf i).toNat)
      case atStart => exact ⟨0, by omega, rfl, rfl, hb1⟩
      case round =>
        clear hb1
        obtain ⟨j, hj, rfl, rfl, hb⟩ := hrel
        by_cases hlt : j < 6
        · have c1 := ((h.below hb).cellx j hlt).1
          have c2 := ((hC.below hb).cellx j hlt).1
          have x1 := HB1.out j
          have x2 := HB2.out j
          have bj := bd.out j
          have hs := show costTo ls ps (j + 1) = costTo ls ps j + ls.getD j 0 * ps.getD j 0 from rfl
          obtain ⟨x, hx⟩ : ∃ x, ls.getD j 0 = x := ⟨_, rfl⟩
          obtain ⟨y, hy⟩ : ∃ y, ps.getD j 0 = y := ⟨_, rfl⟩
          obtain ⟨F, hF⟩ : ∃ F, costTo ls ps j = F := ⟨_, rfl⟩
          rw [hx] at c1 x1 hs
          rw [hy] at c2 x2 hs
          rw [hF] at bj hs ⊢
          have g1 := Int.mul_nonneg x1.1 x2.1
          have g2 := Int.mul_le_mul x1.2 x2.2 x2.1 (by omega : (0 : Int) ≤ 30)
          have u1 : IntKind.i64.wrap (x * y) = x * y := IntWalk.i64_in _ (by omega)
          have u2 : IntKind.i64.wrap (F + x * y) = F + x * y := IntWalk.i64_in _ (by omega)
          have i1 : (0 : Int) ≤ (j : Int) := by omega
          have i2 : (j : Int) < (6 : Int) := by omega
          have HS := Lib.hid hs
          clear hs hx hy hF g1 g2
          go_upto_region 7 with fail
          go_quiet (fail)
          go_wp2
          go_roundw
          case rel => exact ⟨j + 1, hlt, by go_num, by rw [HS.out], bdN hb _⟩
          case measure => simp [intOf]; omega
        · obtain rfl : j = 6 := by omega
          go_wp2
          go_ret
          exact ⟨ret_int (by rw [hv.out]), hb⟩
    · have v2' : fvV ps = false := by simpa using v2
      rw [v2'] at K2
      have hv : Hid (lcoV ls ps = -1) := by show _ = _; unfold lcoV; rw [if_neg (fun g => v2 g.2)]
      clear v1 v2 v2'
      go_enter Tryd.func65, Tryd.ntmps65
      go_wp2_with (first
        | (go_at_call 60; refine (K1 _ h).mono ?_; rintro e w1 ⟨rfl, hb1⟩; clear K1)
        | (go_at_call 60; refine (K2 _ (hC.below hb1)).mono ?_; rintro e w2 ⟨rfl, hb2⟩; replace hb1 := bt hb1 hb2; clear K2 hb2))
      go_ret
      exact ⟨ret_int (by rw [hv.out]), hb1⟩
  · have v1' : fvV ls = false := by simpa using v1
    rw [v1'] at K1
    have hv : Hid (lcoV ls ps = -1) := by show _ = _; unfold lcoV; rw [if_neg (fun g => v1 g.1)]
    clear v1 v1' K2
    go_enter Tryd.func65, Tryd.ntmps65
    go_wp2_with (go_at_call 60; refine (K1 _ h).mono ?_; rintro e w1 ⟨rfl, hb1⟩; clear K1)
    go_ret
    exact ⟨ret_int (by rw [hv.out]), hb1⟩
end Go.Proofs.YtoiaggjjfahabaaDoor
