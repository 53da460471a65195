/- CoinsValid and CoinSum: what they compute, of the program and of the reference. No condition but the length. -/
import Derived.Test.YtoiaggjjfahabaaDoorSl
namespace Go.Proofs.YtoiaggjjfahabaaDoor
open Go.RowKit

def okAt (zs : List Int) (i : Nat) : Prop := 1 ≤ zs[i]?.getD 0 ∧ zs[i]?.getD 0 ≤ 99 ∧ (0 < i → zs[i - 1]?.getD 0 < zs[i]?.getD 0)
instance (zs : List Int) (i : Nat) : Decidable (okAt zs i) := by unfold okAt; infer_instance
def cv (zs : List Int) : Bool := decide (1 ≤ zs.length ∧ zs.length ≤ 5 ∧ ∀ i, i < zs.length → okAt zs i)
theorem cv_at {zs : List Int} (h : cv zs = true) : 1 ≤ zs.length ∧ zs.length ≤ 5 ∧ ∀ i, i < zs.length → 1 ≤ zs[i]?.getD 0 ∧ zs[i]?.getD 0 ≤ 99 := by
  unfold cv at h
  rw [decide_eq_true_iff] at h
  exact ⟨h.1, h.2.1, fun i hi => by have := h.2.2 i hi; unfold okAt at this; omega⟩
theorem l1In_q (n lo hi : Int) (w : World) :
    Calls Tryd.prog 44 #[.int .i64 n, .int .i64 lo, .int .i64 hi] w fun e w' => e = .returned (.bool (inR n lo hi)) ∧ w' = w :=
  (l1In_any n lo hi w).mono fun _ _ ⟨a, b⟩ => ⟨a, b.symm⟩
theorem CoinsValid_s (A : Option Addr) (n cap : Nat) (zs : List Int) (w : World) (h : Ints w A n zs) (hn : n ≤ 9223372036854775807) :
    Calls Tryd.prog 53 #[.slice A n cap] w fun e w' => e = .returned (.bool (cv zs)) ∧ Below w.heap.size w w' := by
  go_enter Tryd.func53, Tryd.ntmps53
  go_wp2
  go_loopw [3] (fun i wr => ∃ k : Nat, k ≤ n ∧ i = .int .i64 k ∧ (∀ i, i < k → okAt zs i) ∧ Below w.heap.size w wr) (fun i _ => n - (intOf i).toNat)
  case atStart => exact ⟨0, by omega, rfl, (fun i hi => absurd hi (by omega)), by (repeat (first | exact Below.refl _ _ | assumption | refine Below.alloc ?_ (by first | omega | (simp; done) | (simp; omega)) _ | refine Below.drew ?_ | refine bdN ?_ _ | refine Below.setCell ?_ (by first | omega | (simp; done) | (simp; omega)) _))⟩
  case round =>
    obtain ⟨k, hk, rfl, ho, hb⟩ := hrel
    have Ho := Lib.hid ho
    clear ho
    by_cases hlt : k < n
    · obtain ⟨b, off, rfl, hbl, hc⟩ := h.2 (by omega)
      have c1 : wr.cell? ⟨b, off + k, none⟩ = some (.int .i64 (zs.getD k 0)) := (hb.cell (p := ⟨b, off + k, none⟩) hbl).trans (hc k hlt)
      have i1 : (0 : Int) ≤ (k : Int) := by omega
      have i2 : (k : Int) < (n : Int) := by omega
      by_cases hr : inR (zs[k]?.getD 0) 1 99 = true
      · have Hr : 1 ≤ zs[k]?.getD 0 ∧ zs[k]?.getD 0 ≤ 99 := by simpa [inR] using hr
        by_cases hk0 : 0 < k
        · have c2 : wr.cell? ⟨b, off + (k - 1), none⟩ = some (.int .i64 (zs.getD (k - 1) 0)) := (hb.cell (p := ⟨b, off + (k - 1), none⟩) hbl).trans (hc (k - 1) (by omega))
          have hkb : decide ((0 : Int) < (k : Int)) = true := by simp; omega
          have i3 : (0 : Int) ≤ (k : Int) - 1 := by omega
          have i4 : (k : Int) - 1 < (n : Int) := by omega
          have i5 : IntKind.i64.wrap ((k : Int) - 1) = (k : Int) - 1 := IntWalk.i64_in _ (by omega)
          have i6 : ((k : Int) - 1).toNat = k - 1 := by omega
          clear hc
          by_cases hge : zs[k]?.getD 0 ≤ zs[k - 1]?.getD 0
          · have hgb : decide (zs[k]?.getD 0 ≤ zs[k - 1]?.getD 0) = true := by simpa using hge
            go_wp2
            go_quiet ((go_at_call 44; exact Calls.quiet_of_same (l1In_q _ _ _ _)))
            clear i5 i6
            go_wp2
            go_ret
            exact ⟨ret_bool (by symm; unfold cv; rw [decide_eq_false_iff_not]; rintro ⟨_, _, g⟩; have g := g k (by rw [h.1]; exact hlt); unfold okAt at g; omega), by (repeat (first | exact Below.refl _ _ | assumption | refine Below.alloc ?_ (by first | omega | (simp; done) | (simp; omega)) _ | refine Below.drew ?_ | refine bdN ?_ _ | refine Below.setCell ?_ (by first | omega | (simp; done) | (simp; omega)) _))⟩
          · have hgb : decide (zs[k]?.getD 0 ≤ zs[k - 1]?.getD 0) = false := by simpa using hge
            go_wp2
            go_quiet ((go_at_call 44; exact Calls.quiet_of_same (l1In_q _ _ _ _)))
            clear i5 i6
            go_wp2
            go_roundw
            case rel => exact ⟨k + 1, hlt, by go_num, (fun i hi => by rcases Nat.lt_or_ge i k with g | g; exact Ho.out i g; obtain rfl : i = k := (by omega); exact ⟨Hr.1, Hr.2, fun _ => by omega⟩), by (repeat (first | exact Below.refl _ _ | assumption | refine Below.alloc ?_ (by first | omega | (simp; done) | (simp; omega)) _ | refine Below.drew ?_ | refine bdN ?_ _ | refine Below.setCell ?_ (by first | omega | (simp; done) | (simp; omega)) _))⟩
            case measure => simp [intOf]; omega
        · have hkb : decide (0 < k) = false := by simp; omega
          have HK := Lib.hid hk0
          clear hc hk0
          go_wp2
          go_quiet ((go_at_call 44; exact Calls.quiet_of_same (l1In_q _ _ _ _)))
          go_wp2
          go_roundw
          case rel => exact ⟨k + 1, hlt, by go_num, (fun i hi => by have hk0 := HK.out; obtain rfl : i = k := (by omega); exact ⟨Hr.1, Hr.2, fun g => absurd g hk0⟩), by (repeat (first | exact Below.refl _ _ | assumption | refine Below.alloc ?_ (by first | omega | (simp; done) | (simp; omega)) _ | refine Below.drew ?_ | refine bdN ?_ _ | refine Below.setCell ?_ (by first | omega | (simp; done) | (simp; omega)) _))⟩
          case measure => simp [intOf]; omega
      · have hr' : inR (zs[k]?.getD 0) 1 99 = false := by simpa using hr
        have Hr : ¬ (1 ≤ zs[k]?.getD 0 ∧ zs[k]?.getD 0 ≤ 99) := fun g => hr (inR_yes g)
        have HR := Lib.hid Hr
        clear hc hr Hr
        go_wp2
        go_quiet ((go_at_call 44; exact Calls.quiet_of_same (l1In_q _ _ _ _)))
        go_wp2
        go_ret
        exact ⟨ret_bool (by symm; unfold cv; rw [decide_eq_false_iff_not]; rintro ⟨_, _, g⟩; have g := g k (by rw [h.1]; exact hlt); unfold okAt at g; exact HR.out ⟨g.1, g.2.1⟩), by (repeat (first | exact Below.refl _ _ | assumption | refine Below.alloc ?_ (by first | omega | (simp; done) | (simp; omega)) _ | refine Below.drew ?_ | refine bdN ?_ _ | refine Below.setCell ?_ (by first | omega | (simp; done) | (simp; omega)) _))⟩
    · obtain rfl : k = n := by omega
      go_wp2_with (go_at_call 44; refine (l1In_any _ _ _ _).mono ?_; rintro e w' ⟨rfl, rfl⟩)
      go_ret
      exact ⟨ret_bool (by unfold cv inR; rw [decide_eq_decide, h.1]; constructor; (intro g; exact ⟨by omega, by omega, Ho.out⟩); (rintro ⟨g1, g2, _⟩; omega)), by (repeat (first | exact Below.refl _ _ | assumption | refine Below.alloc ?_ (by first | omega | (simp; done) | (simp; omega)) _ | refine Below.drew ?_ | refine bdN ?_ _ | refine Below.setCell ?_ (by first | omega | (simp; done) | (simp; omega)) _))⟩

theorem CoinsValid_i (A : Option Addr) (n cap : Nat) (zs : List Int) (w : World) (h : Ints w A n zs) (hn : n ≤ 9223372036854775807) :
    Calls Tryd.prog 51 #[.slice A n cap] w fun e w' => e = .returned (.bool (cv zs)) ∧ Below w.heap.size w w' := by
  by_cases hn0 : (n : Int) < 1 ∨ (5 : Int) < n
  · have hx : cv zs = false := by unfold cv; rw [decide_eq_false_iff_not]; rintro ⟨g1, g2, _⟩; rw [h.1] at g1 g2; omega
    rcases hn0 with g | g
    · have g' : decide ((n : Int) < 1) = true := by simpa using g
      go_enter Tryd.func51, Tryd.ntmps51
      go_wp2
      go_ret
      exact ⟨ret_bool hx.symm, by (repeat (first | exact Below.refl _ _ | assumption | refine Below.alloc ?_ (by first | omega | (simp; done) | (simp; omega)) _ | refine Below.drew ?_ | refine bdN ?_ _ | refine Below.setCell ?_ (by first | omega | (simp; done) | (simp; omega)) _))⟩
    · go_enter Tryd.func51, Tryd.ntmps51
      go_wp2
      all_goals
        go_ret
        exact ⟨ret_bool hx.symm, by (repeat (first | exact Below.refl _ _ | assumption | refine Below.alloc ?_ (by first | omega | (simp; done) | (simp; omega)) _ | refine Below.drew ?_ | refine bdN ?_ _ | refine Below.setCell ?_ (by first | omega | (simp; done) | (simp; omega)) _))⟩
  · have g1 : 1 ≤ n := by omega
    have g2 : n ≤ 5 := by omega
    clear hn0
    go_enter Tryd.func51, Tryd.ntmps51
    go_wp2
    go_loopw [3, 16] (fun v i wr => ∃ k : Nat, k ≤ n ∧ i = .int .i64 k ∧ v = .int .i64 (if k = 0 then 0 else zs[k - 1]?.getD 0) ∧ (∀ i, i < k → okAt zs i) ∧ Below w.heap.size w wr) (fun _ i _ => n - (intOf i).toNat)
    case atStart => exact ⟨0, by omega, rfl, rfl, (fun i hi => absurd hi (by omega)), by (repeat (first | exact Below.refl _ _ | assumption | refine Below.alloc ?_ (by first | omega | (simp; done) | (simp; omega)) _ | refine Below.drew ?_ | refine bdN ?_ _ | refine Below.setCell ?_ (by first | omega | (simp; done) | (simp; omega)) _))⟩
    case round =>
      obtain ⟨k, hk, rfl, rfl, ho, hb⟩ := hrel
      obtain ⟨q, hq⟩ : ∃ q : Int, q = (if k = 0 then 0 else zs[k - 1]?.getD 0) := ⟨_, rfl⟩
      rw [← hq]
      have Hq := Lib.hid hq
      have Ho := Lib.hid ho
      clear ho hq
      by_cases hlt : k < n
      · obtain ⟨b, off, rfl, hbl, hc⟩ := h.2 (by omega)
        have c1 : wr.cell? ⟨b, off + k, none⟩ = some (.int .i64 (zs.getD k 0)) := (hb.cell (p := ⟨b, off + k, none⟩) hbl).trans (hc k hlt)
        clear hc
        by_cases hz : zs[k]?.getD 0 ≤ q ∨ 99 < zs[k]?.getD 0
        · have hx : cv zs = false := by
            unfold cv
            rw [decide_eq_false_iff_not]
            rintro ⟨_, _, g⟩
            have g := g k (by rw [h.1]; exact hlt)
            have e := Hq.out
            unfold okAt at g
            split at e <;> omega
          have Hx := Lib.hid hx
          clear hx
          rcases hz with g | g
          · go_wp2
            go_ret
            exact ⟨ret_bool Hx.out.symm, by (repeat (first | exact Below.refl _ _ | assumption | refine Below.alloc ?_ (by first | omega | (simp; done) | (simp; omega)) _ | refine Below.drew ?_ | refine bdN ?_ _ | refine Below.setCell ?_ (by first | omega | (simp; done) | (simp; omega)) _))⟩
          · go_wp2
            all_goals
              go_ret
              exact ⟨ret_bool Hx.out.symm, by (repeat (first | exact Below.refl _ _ | assumption | refine Below.alloc ?_ (by first | omega | (simp; done) | (simp; omega)) _ | refine Below.drew ?_ | refine bdN ?_ _ | refine Below.setCell ?_ (by first | omega | (simp; done) | (simp; omega)) _))⟩
        · have z1 : q < zs[k]?.getD 0 := by omega
          have z2 : zs[k]?.getD 0 ≤ 99 := by omega
          clear hz
          go_wp2
          go_roundw
          case rel =>
            refine ⟨k + 1, hlt, by go_num, by simp, (fun i hi => ?_), by (repeat (first | exact Below.refl _ _ | assumption | refine Below.alloc ?_ (by first | omega | (simp; done) | (simp; omega)) _ | refine Below.drew ?_ | refine bdN ?_ _ | refine Below.setCell ?_ (by first | omega | (simp; done) | (simp; omega)) _))⟩
            rcases Nat.lt_or_ge i k with g | g
            · exact Ho.out i g
            · obtain rfl : i = k := by omega
              have e := Hq.out
              refine ⟨?_, z2, fun g0 => ?_⟩
              · split at e
                · omega
                · have := Ho.out (i - 1) (by omega); unfold okAt at this; omega
              · rw [if_neg (by omega)] at e; omega
          case measure => simp [intOf]; omega
      · obtain rfl : k = n := by omega
        go_wp2
        go_ret
        exact ⟨ret_bool (by symm; unfold cv; rw [decide_eq_true_iff, h.1]; exact ⟨g1, g2, Ho.out⟩), by (repeat (first | exact Below.refl _ _ | assumption | refine Below.alloc ?_ (by first | omega | (simp; done) | (simp; omega)) _ | refine Below.drew ?_ | refine bdN ?_ _ | refine Below.setCell ?_ (by first | omega | (simp; done) | (simp; omega)) _))⟩
end Go.Proofs.YtoiaggjjfahabaaDoor
