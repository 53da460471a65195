/- BooksMost: what it computes, of the program and of the reference. No condition but the length. -/
import Derived.Test.YtoiaggjjfahabaaBVal
import Derived.Test.YtoiaggjjfahabaaBAt
namespace Go.Proofs.Ytoiaggjjfahabaa
open Go.RowKit

def bmTo (qs : List Quad) : Nat → Int
  | 0 => 0
  | h + 1 => max (bmTo qs h) (baV qs h)
def bmV (qs : List Quad) : Int := if bsV qs = true then bmTo qs 30 else -1
theorem bmTo_bd (qs : List Quad) (h : Nat) : 0 ≤ bmTo qs h ∧ bmTo qs h ≤ qs.length := by
  induction h with
  | zero => simp [bmTo]
  | succ h ih =>
    have := baTo_bd qs h qs.length
    unfold bmTo baV
    omega
theorem BooksMost_s (A : Option Addr) (n cap : Nat) (qs : List Quad) (w : World) (h : Books w A n qs) (hn : n ≤ 1048576) :
    Calls Try.prog 35 #[.slice A n cap] w fun e w' => e = .returned (.int .i64 (bmV qs)) ∧ Below w.heap.size w w' := by
  go_enter Try.func35, Try.ntmps35
  go_wp2
  go_loopw [3, 4] (fun v i wr => ∃ k : Nat, k ≤ 30 ∧ i = .int .i64 k ∧ v = .int .i64 (bmTo qs k) ∧ Below w.heap.size w wr) (fun _ i _ => 30 - (intOf i).toNat)
  case atStart => exact ⟨0, by omega, rfl, rfl, by (repeat (first | exact Below.refl _ _ | assumption | refine Below.alloc ?_ (by first | omega | (simp; done) | (simp; omega)) _ | refine Below.drew ?_ | refine bdN ?_ _ | refine Below.setCell ?_ (by first | omega | (simp; done) | (simp; omega)) _))⟩
  case round =>
    obtain ⟨k, hk, rfl, rfl, hb⟩ := hrel
    by_cases hlt : k < 30
    · have hs := show bmTo qs (k + 1) = max (bmTo qs k) (baV qs k) from rfl
      have HS := Lib.hid hs
      clear hs
      go_wp2_with fail
      refine (BooksAt_s _ _ _ qs _ _ (h.below hb) hn).mono ?_
      rintro e w1 ⟨rfl, hb1⟩
      go_wp2
      all_goals
        go_roundw
        case rel => exact ⟨k + 1, hlt, by go_num, by rw [HS.out]; congr 1; omega, bt hb hb1⟩
        case measure => simp [intOf]; omega
    · obtain rfl : k = 30 := by omega
      by_cases hv : bsV qs = true
      · have hb' : Hid (bmV qs = bmTo qs 30) := by show _ = _; unfold bmV; rw [if_pos hv]
        go_wp2_with fail
        refine (BooksValid_s _ _ _ qs _ (h.below hb) hn).mono ?_
        rintro e w1 ⟨rfl, hb1⟩
        go_wp2
        go_ret
        exact ⟨ret_int hb'.out.symm, bt hb hb1⟩
      · have hv' : bsV qs = false := by simpa using hv
        have hb' : Hid (bmV qs = -1) := by show _ = _; unfold bmV; rw [if_neg hv]
        clear hv
        go_wp2_with fail
        refine (BooksValid_s _ _ _ qs _ (h.below hb) hn).mono ?_
        rintro e w1 ⟨rfl, hb1⟩
        go_wp2
        go_ret
        exact ⟨ret_int hb'.out.symm, bt hb hb1⟩
theorem BooksMost_i (A : Option Addr) (n cap : Nat) (qs : List Quad) (w : World) (h : Books w A n qs) (hn : n ≤ 1048576) (hcap : n ≤ cap) :
    Calls Try.prog 39 #[.slice A n cap] w fun e w' => e = .returned (.int .i64 (bmV qs)) ∧ Below w.heap.size w w' := by
  by_cases hv : bsV qs = true
  · have hb' : Hid (bmV qs = bmTo qs 30) := by show _ = _; unfold bmV; rw [if_pos hv]
    go_enter Try.func39, Try.ntmps39
    go_wp2_with fail
    refine (BooksValid_i _ _ _ qs _ h hn hcap).mono ?_
    rintro e w0 ⟨rfl, hb0⟩
    replace h := h.below hb0
    go_wp2
    go_loopw [3, 8] (fun v i wr => ∃ k : Nat, k ≤ 30 ∧ i = .int .i64 k ∧ v = .int .i64 (bmTo qs k) ∧ Below w0.heap.size w0 wr) (fun _ i _ => 30 - (intOf i).toNat)
    case atStart => exact ⟨0, by omega, rfl, rfl, Below.refl _ _⟩
    case round =>
      obtain ⟨k, hk, rfl, rfl, hb⟩ := hrel
      by_cases hlt : k < 30
      · have hs := show bmTo qs (k + 1) = max (bmTo qs k) (baV qs k) from rfl
        have HS := Lib.hid hs
        clear hs
        go_wp2_with fail
        refine (BooksAt_i _ _ _ qs _ _ (h.below hb) hn).mono ?_
        rintro e w1 ⟨rfl, hb1⟩
        go_wp2
        all_goals
          go_roundw
          case rel => exact ⟨k + 1, hlt, by go_num, by rw [HS.out]; congr 1; omega, bt hb hb1⟩
          case measure => simp [intOf]; omega
      · obtain rfl : k = 30 := by omega
        go_wp2
        go_ret
        exact ⟨ret_int hb'.out.symm, bt hb0 hb⟩
  · have hv' : bsV qs = false := by simpa using hv
    have hb' : Hid (bmV qs = -1) := by show _ = _; unfold bmV; rw [if_neg hv]
    clear hv
    go_enter Try.func39, Try.ntmps39
    go_wp2_with fail
    refine (BooksValid_i _ _ _ qs _ h hn hcap).mono ?_
    rintro e w0 ⟨rfl, hb0⟩
    go_wp2
    go_ret
    exact ⟨ret_int hb'.out.symm, hb0⟩
end Go.Proofs.Ytoiaggjjfahabaa
