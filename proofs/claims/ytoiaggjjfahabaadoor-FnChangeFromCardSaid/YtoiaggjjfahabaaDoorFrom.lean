/- spec.PlanUnits and spec.l5From: what they compute. Conditions: the kinds are 1 to 99, the stock 0 to 300 of each, the amount at most 300. -/
import Derived.Test.YtoiaggjjfahabaaDoorCoin
import Derived.Test.YtoiaggjjfahabaaDoorPWay
import Derived.Laws.AppendOwn
namespace Go.Proofs.YtoiaggjjfahabaaDoor
open Go.RowKit
set_option linter.unusedVariables false
def suT (xs : List Int) : Nat → Int
  | 0 => 0
  | k + 1 => suT xs k + xs[k]?.getD 0
theorem suT_bd {xs : List Int} (h : ∀ i : Nat, 0 ≤ xs[i]?.getD 0 ∧ xs[i]?.getD 0 ≤ 300) (k : Nat) : 0 ≤ suT xs k ∧ suT xs k ≤ 300 * k := by
  induction k with
  | zero => simp [suT]
  | succ k ih => have := h k; unfold suT; omega
theorem PlanUnits_s (A : Option Addr) (n cap : Nat) (xs : List Int) (w : World) (h : Ints w A n xs) (hn : n ≤ 1000) (hx : ∀ i : Nat, 0 ≤ xs[i]?.getD 0 ∧ xs[i]?.getD 0 ≤ 300) :
    Calls Tryd.prog 68 #[.slice A n cap] w fun e w' => e = .returned (.int .i64 (suT xs n)) ∧ w = w' := by
  have HX := Lib.hid hx
  go_enter Tryd.func68, Tryd.ntmps68
  go_wp2
  go_loop [3, 4] (fun s i => ∃ k : Nat, k ≤ n ∧ i = .int .i64 k ∧ s = .int .i64 (suT xs k)) (fun _ i => n - (intOf i).toNat)
  case atStart => exact ⟨0, by omega, rfl, rfl⟩
  case round =>
    obtain ⟨k, hk, rfl, rfl⟩ := hrel
    have bd := suT_bd hx k
    have bk := hx k
    by_cases hlt : k < n
    · obtain ⟨b, off, rfl, hbl, hcl⟩ := h.2 (by omega)
      have c1 := hcl k hlt
      have HS : Hid (suT xs (k + 1) = suT xs k + xs[k]?.getD 0) := by show _ = _; rfl
      rw [List.getD_eq_getElem?_getD] at c1
      generalize suT xs k = X at *
      generalize xs[k]?.getD 0 = Y at *
      clear hcl hx h
      go_wp2
      go_round
      case rel => exact ⟨k + 1, hlt, by go_num, by rw [HS.out]⟩
      case measure => simp [intOf]; omega
    · obtain rfl : k = n := by omega
      clear hx h
      go_wp2
      go_ret
      exact ⟨rfl, rfl⟩
/-- the kinds, the stock as functions -/
def fz (zs : List Int) (j : Nat) : Nat := (zs[j]?.getD 0).toNat
def wv (zs qs : List Int) (i a : Nat) : List Int := if 0 ≤ cost (fz zs) (fz qs) i a then (way (fz zs) (fz qs) i a).map Int.ofNat else []
theorem way_len (z q : Nat → Nat) (i s : Nat) : (way z q i s).length = i := by
  induction i generalizing s with
  | zero => rfl
  | succ i ih => rw [way_succ]; simp [ih]
theorem topN_le (z q : Nat → Nat) (i s : Nat) : topN z q i s ≤ q i := by
  have key : ∀ (f : Nat → Int) (c s : Nat) (t : Int) (N : Nat), down f c s t N ≤ N := by
    intro f c s t N
    induction N with
    | zero => simp [down]
    | succ N ih => unfold down; split <;> omega
  have := key (cost z q i) (z i) s (cost z q (i + 1) s) (min (min (q i) (s / z i)) (cost z q (i + 1) s).toNat)
  unfold topN
  omega
theorem wv_len (zs qs : List Int) (i a : Nat) : (wv zs qs i a).length ≤ i := by
  unfold wv
  split
  · simp [way_len]
  · simp
theorem suT_append (xs : List Int) (y : Int) : suT (xs ++ [y]) (xs.length + 1) = suT xs xs.length + y := by
  have key : ∀ k, k ≤ xs.length → suT (xs ++ [y]) k = suT xs k := by
    intro k
    induction k with
    | zero => intro _; rfl
    | succ k ih => intro hk; unfold suT; rw [ih (by omega), List.getElem?_append_left (by omega)]
  have e : suT (xs ++ [y]) (xs.length + 1) = suT (xs ++ [y]) xs.length + (xs ++ [y])[xs.length]?.getD 0 := rfl
  rw [e, key _ (Nat.le_refl _)]
  simp
theorem suT_way (z q : Nat → Nat) (i s : Nat) (h : 0 ≤ cost z q i s) : suT ((way z q i s).map Int.ofNat) i = cost z q i s := by
  induction i generalizing s with
  | zero =>
    unfold cost at h ⊢
    split
    · rfl
    · rename_i h0; rw [if_neg h0] at h; omega
  | succ i ih =>
    obtain ⟨n, a, b, c, d, e⟩ := best_top z q i s h
    rw [way_succ, e, List.map_append]
    have hl : ((way z q i (s - n * z i)).map Int.ofNat).length = i := by simp [way_len]
    have := suT_append ((way z q i (s - n * z i)).map Int.ofNat) (Int.ofNat n)
    rw [hl] at this
    simp only [List.map_cons, List.map_nil]
    rw [this, ih _ b, c]
    rfl
end Go.Proofs.YtoiaggjjfahabaaDoor
