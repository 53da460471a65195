/- BooksAt: what it computes, of the program and of the reference. No condition but the length. -/
import Derived.Test.YtoiaggjjfahabaaQuad
namespace Go.Proofs.Ytoiaggjjfahabaa
open Go.RowKit

def atH (q : Quad) (h : Int) : Prop := q.b ≤ h ∧ h < q.c
instance (q : Quad) (h : Int) : Decidable (atH q h) := by unfold atH; infer_instance
def baTo (qs : List Quad) (h : Int) : Nat → Int
  | 0 => 0
  | k + 1 => baTo qs h k + if atH (qs.getD k q0) h then 1 else 0
theorem baTo_bd (qs : List Quad) (h : Int) (k : Nat) : 0 ≤ baTo qs h k ∧ baTo qs h k ≤ k := by
  induction k with
  | zero => simp [baTo]
  | succ k ih => unfold baTo; split <;> omega
def baV (qs : List Quad) (h : Int) : Int := baTo qs h qs.length
theorem BooksAt_i (A : Option Addr) (n cap : Nat) (qs : List Quad) (m : Int) (w : World) (h : Books w A n qs) (hn : n ≤ 1048576) :
    Calls Try.prog 52 #[.slice A n cap, .int .i64 m] w fun e w' => e = .returned (.int .i64 (baV qs m)) ∧ Below w.heap.size w w' := by
  go_enter Try.func52, Try.ntmps52
  go_wp2
  go_loopw [5, 10] (fun v i wr => ∃ k : Nat, k ≤ n ∧ i = .int .i64 k ∧ v = .int .i64 (baTo qs m k) ∧ Below w.heap.size w wr) (fun _ i _ => n - (intOf i).toNat)
  case atStart => exact ⟨0, by omega, rfl, rfl, by (repeat (first | exact Below.refl _ _ | assumption | refine Below.alloc ?_ (by first | omega | (simp; done) | (simp; omega)) _ | refine Below.drew ?_ | refine bdN ?_ _ | refine Below.setCell ?_ (by first | omega | (simp; done) | (simp; omega)) _))⟩
  case round =>
    obtain ⟨k, hk, rfl, rfl, hb⟩ := hrel
    have bd := baTo_bd qs m k
    by_cases hlt : k < n
    · obtain ⟨b, off, rfl, hbl, hc⟩ := (h.below hb).2 (by omega)
      obtain ⟨r0, r1, r2, r3⟩ := hc k hlt
      have hsz := hb.size
      have HB := Lib.hid hb
      have hs := show baTo qs m (k + 1) = baTo qs m k + (if atH (qs.getD k q0) m then 1 else 0) from rfl
      generalize qs.getD k q0 = q at *
      clear hc hb
      by_cases h1 : q.b ≤ m
      · by_cases h2 : m < q.c
        · have HS : Hid (baTo qs m (k + 1) = baTo qs m k + 1) := by show _ = _; rw [hs, if_pos ⟨h1, h2⟩]
          clear hs
          go_wp2
          go_roundw
          case rel => exact ⟨k + 1, hlt, by go_num, by rw [HS.out], by have hb := HB.out; (repeat (first | exact Below.refl _ _ | assumption | refine Below.alloc ?_ (by first | omega | (simp; done) | (simp; omega)) _ | refine Below.drew ?_ | refine bdN ?_ _ | refine Below.setCell ?_ (by first | omega | (simp; done) | (simp; omega)) _))⟩
          case measure => simp [intOf]; omega
        · have HS : Hid (baTo qs m (k + 1) = baTo qs m k) := by show _ = _; rw [hs, if_neg (fun g => h2 g.2)]; omega
          clear hs
          go_wp2
          go_roundw
          case rel => exact ⟨k + 1, hlt, by go_num, by rw [HS.out], by have hb := HB.out; (repeat (first | exact Below.refl _ _ | assumption | refine Below.alloc ?_ (by first | omega | (simp; done) | (simp; omega)) _ | refine Below.drew ?_ | refine bdN ?_ _ | refine Below.setCell ?_ (by first | omega | (simp; done) | (simp; omega)) _))⟩
          case measure => simp [intOf]; omega
      · have HS : Hid (baTo qs m (k + 1) = baTo qs m k) := by show _ = _; rw [hs, if_neg (fun g => h1 g.1)]; omega
        clear hs
        go_wp2
        go_roundw
        case rel => exact ⟨k + 1, hlt, by go_num, by rw [HS.out], by have hb := HB.out; (repeat (first | exact Below.refl _ _ | assumption | refine Below.alloc ?_ (by first | omega | (simp; done) | (simp; omega)) _ | refine Below.drew ?_ | refine bdN ?_ _ | refine Below.setCell ?_ (by first | omega | (simp; done) | (simp; omega)) _))⟩
        case measure => simp [intOf]; omega
    · obtain rfl : k = n := by omega
      go_wp2
      go_ret
      exact ⟨ret_int (by unfold baV; rw [h.1]), hb⟩
theorem BooksAt_s (A : Option Addr) (n cap : Nat) (qs : List Quad) (m : Int) (w : World) (h : Books w A n qs) (hn : n ≤ 1048576) :
    Calls Try.prog 51 #[.slice A n cap, .int .i64 m] w fun e w' => e = .returned (.int .i64 (baV qs m)) ∧ Below w.heap.size w w' := by
  go_enter Try.func51, Try.ntmps51
  go_wp2
  go_loopw [5, 6] (fun v i wr => ∃ k : Nat, k ≤ n ∧ i = .int .i64 k ∧ v = .int .i64 (baTo qs m k) ∧ Below w.heap.size w wr) (fun _ i _ => n - (intOf i).toNat)
  case atStart => exact ⟨0, by omega, rfl, rfl, by (repeat (first | exact Below.refl _ _ | assumption | refine Below.alloc ?_ (by first | omega | (simp; done) | (simp; omega)) _ | refine Below.drew ?_ | refine bdN ?_ _ | refine Below.setCell ?_ (by first | omega | (simp; done) | (simp; omega)) _))⟩
  case round =>
    obtain ⟨k, hk, rfl, rfl, hb⟩ := hrel
    have bd := baTo_bd qs m k
    by_cases hlt : k < n
    · obtain ⟨b, off, rfl, hbl, hc⟩ := (h.below hb).2 (by omega)
      obtain ⟨r0, r1, r2, r3⟩ := hc k hlt
      have hs := show baTo qs m (k + 1) = baTo qs m k + (if atH (qs.getD k q0) m then 1 else 0) from rfl
      generalize qs.getD k q0 = q at *
      clear hc
      by_cases h1 : q.b ≤ m
      · by_cases h2 : m < q.c
        · have HS : Hid (baTo qs m (k + 1) = baTo qs m k + 1) := by show _ = _; rw [hs, if_pos ⟨h1, h2⟩]
          clear hs
          go_wp2
          go_roundw
          case rel => exact ⟨k + 1, hlt, by go_num, by rw [HS.out], by (repeat (first | exact Below.refl _ _ | assumption | refine Below.alloc ?_ (by first | omega | (simp; done) | (simp; omega)) _ | refine Below.drew ?_ | refine bdN ?_ _ | refine Below.setCell ?_ (by first | omega | (simp; done) | (simp; omega)) _))⟩
          case measure => simp [intOf]; omega
        · have HS : Hid (baTo qs m (k + 1) = baTo qs m k) := by show _ = _; rw [hs, if_neg (fun g => h2 g.2)]; omega
          clear hs
          go_wp2
          go_roundw
          case rel => exact ⟨k + 1, hlt, by go_num, by rw [HS.out], by (repeat (first | exact Below.refl _ _ | assumption | refine Below.alloc ?_ (by first | omega | (simp; done) | (simp; omega)) _ | refine Below.drew ?_ | refine bdN ?_ _ | refine Below.setCell ?_ (by first | omega | (simp; done) | (simp; omega)) _))⟩
          case measure => simp [intOf]; omega
      · have HS : Hid (baTo qs m (k + 1) = baTo qs m k) := by show _ = _; rw [hs, if_neg (fun g => h1 g.1)]; omega
        clear hs
        go_wp2
        go_roundw
        case rel => exact ⟨k + 1, hlt, by go_num, by rw [HS.out], by (repeat (first | exact Below.refl _ _ | assumption | refine Below.alloc ?_ (by first | omega | (simp; done) | (simp; omega)) _ | refine Below.drew ?_ | refine bdN ?_ _ | refine Below.setCell ?_ (by first | omega | (simp; done) | (simp; omega)) _))⟩
        case measure => simp [intOf]; omega
    · obtain rfl : k = n := by omega
      go_wp2
      go_ret
      exact ⟨ret_int (by unfold baV; rw [h.1]), hb⟩
end Go.Proofs.Ytoiaggjjfahabaa
