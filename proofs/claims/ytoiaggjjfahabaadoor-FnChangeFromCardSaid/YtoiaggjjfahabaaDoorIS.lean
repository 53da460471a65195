/- Drawn lists of small ints that begin empty: a row of the call's own beside the reader; l20Amount, l20Pay; sums and equality of lists in the laws. No condition. -/
import Derived.Test.YtoiaggjjfahabaaDoorNews
import Derived.Test.YtoiaggjjfahabaaDoorDCoins
import Derived.Test.YtoiaggjjfahabaaDoorFrom
namespace Go.Proofs.YtoiaggjjfahabaaDoor
open Go.RowKit
set_option linter.unusedVariables false
/-- the state of a drawn list of ints: n of them, in block g -/
def IS (w0 w : World) (r B n g c : Nat) (zs : List Int) : Prop :=
  RB w r B ∧ Stp r w0 w ∧ w.ownsRow w0.heap.size 3 1 (.slice (some ⟨g, 0, none⟩) n c) n (zs.map (Value.int .i64)) ∧ r < w0.heap.size ∧ zs.length = n ∧ (∀ z ∈ zs, Sm z) ∧ w0.heap.size ≤ g ∧ n ≤ c ∧ c ≤ maxLen
section
variable {w0 w w' : World} {r B B' n g c : Nat} {zs : List Int}
theorem IS.rb (h : IS w0 w r B n g c zs) : RB w r B := h.1
theorem IS.own (h : IS w0 w r B n g c zs) : w.ownsRow w0.heap.size 3 1 (.slice (some ⟨g, 0, none⟩) n c) n (zs.map (Value.int .i64)) := h.2.2.1
theorem IS.step (h : IS w0 w r B n g c zs) (hr : RB w' r B') (hs : Stp r w w') : IS w0 w' r B' n g c zs := ⟨hr, h.2.1.trans hs, ownsRow_stp (w0 := w0) h.2.2.1 hs h.2.2.2.1, h.2.2.2⟩
theorem IS.alloc (h : IS w0 w r B n g c zs) (o : Obj) : IS w0 (w.alloc o) r B n g c zs := h.step (h.1.alloc o) (Stp.of_below ((Below.refl _ _).alloc (Nat.le_refl _) o) (Nat.le_of_lt h.1.lt))
theorem IS.drew (h : IS w0 w r B n g c zs) : IS w0 w.drew r B n g c zs := h.step h.1.drew (Stp.drew' (Stp.refl _ _))
theorem IS.le (h : IS w0 w r B n g c zs) (hB : B ≤ B') : IS w0 w r B' n g c zs := ⟨h.1.le hB, h.2⟩
theorem IS.mk0 (hr : RB w r B) (hs : Stp r w0 w) (hl : r < w0.heap.size) : IS w0 (w.alloc (.cells #[] 3)) r B 0 w.heap.size 0 [] :=
  ⟨hr.alloc _, hs.trans (Stp.of_below ((Below.refl _ _).alloc (Nat.le_refl _) _) (Nat.le_of_lt hr.lt)), nw_new0 w _ _ _ hs.2.1, hl, rfl, by simp, hs.2.1, Nat.le_refl _, by simp [maxLen]⟩
theorem IS.app {w1 : World} {o : Obj} {v' : Value} {x : Int} (h : IS w0 w r B n g c zs) (ho : w1.ownsRow w0.heap.size 3 1 v' (n + 1) (zs.map (Value.int .i64) ++ [.int .i64 x])) (hg : (w.alloc o).grownBy w1 (Value.slice (some ⟨g, 0, none⟩) n c).ownBlock) (hx : Sm x) :
    ∃ g' c', v' = .slice (some ⟨g', 0, none⟩) (n + 1) c' ∧ IS w0 w1 r B (n + 1) g' c' (zs ++ [x]) := by
  obtain ⟨g', c', rfl, e1, e2, e3, e4⟩ := own_at ho (by omega)
  have ha := h.alloc o
  have hrow : ∀ q, (Value.slice (some ⟨g, 0, none⟩) n c).ownBlock = some q → w0.heap.size ≤ q := fun q hq => by have := h.2.2.2.2.2.2.1; simp [Value.ownBlock] at hq; omega
  refine ⟨g', c', rfl, ha.1.grown hg h.2.2.2.1 (Nat.le_trans h.2.1.2.1 (by simp)) hrow, ha.2.1.grown hg (Nat.le_of_lt h.2.2.2.1) hrow, by rw [List.map_append]; exact ho, h.2.2.2.1, by simp [h.2.2.2.2.1], fun z hz => ?_, e1, e3, e4⟩
  rcases List.mem_append.mp hz with hz | hz
  · exact h.2.2.2.2.2.1 z hz
  · simp at hz; subst hz; exact hx
theorem IS.ints (h : IS w0 w r B n g c zs) : Ints w (some ⟨g, 0, none⟩) n zs := own_ints1 h.own h.2.2.2.2.1
end
/-- two drawn lists of ints -/
def DI2 (w : World) (A : Option Addr) (k c : Nat) (zs : List Int) (G : Option Addr) (m d : Nat) (ys : List Int) (w' : World) : Prop :=
  Ints w' A k zs ∧ Ints w' G m ys ∧ k ≤ 9 ∧ m ≤ 9 ∧ k ≤ c ∧ m ≤ d ∧ c ≤ maxLen ∧ d ≤ maxLen ∧ (∀ z ∈ zs, Sm z) ∧ (∀ y ∈ ys, Sm y) ∧ Below w.heap.size w w'
def SI (e : Ending) (w w' : World) (r B : Nat) : Prop := ∃ x, e = .returned (.int .i64 x) ∧ Sm x ∧ RB w' r B ∧ Stp r w w'
set_option maxRecDepth 100000 in
set_option maxHeartbeats 1000000 in
theorem amount_sm (r : Nat) (B : Nat) (w : World) (h : RB w r B) (hB : B ≤ 800000000) :
    Calls Tryd.prog 89 #[.pointer (some ⟨r, 0, none⟩)] w fun e w' => SI e w w' r (B + 4) := by
  have HT := Stp.refl r w
  go_enter Tryd.func89, Tryd.ntmps89
  go_wp2_with (go_at_call 50; first
    | ((with_reducible refine (pk r _ _ _ h ?_ ?_ ?_).mono ?_); (omega); (omega); (omega); rintro e w1 ⟨x1, rfl, y1, z1, h1, hs⟩; have HT1 := HT.trans hs; clear h HT hs)
    | ((with_reducible refine (pk r _ _ _ h1 ?_ ?_ ?_).mono ?_); (omega); (omega); (omega); rintro e w2 ⟨x2, rfl, y2, z2, h2, hs⟩; have HT2 := HT1.trans hs; clear h1 HT1 hs)
    | ((with_reducible refine (pk r _ _ _ h2 ?_ ?_ ?_).mono ?_); (omega); (omega); (omega); rintro e w3 ⟨x3, rfl, y3, z3, h3, hs⟩; have HT3 := HT2.trans hs; clear h2 HT2 hs)
    | ((with_reducible refine (pk r _ _ _ h3 ?_ ?_ ?_).mono ?_); (omega); (omega); (omega); rintro e w4 ⟨x4, rfl, y4, z4, h4, hs⟩; have HT4 := HT3.trans hs; clear h3 HT3 hs))
  go_ret
  exact ⟨_, rfl, by unfold Sm; omega, h4.le (by omega), HT4⟩
/-- a drawn list and an amount -/
def DP (w : World) (r B' : Nat) (e : Ending) (w' : World) : Prop :=
  ∃ B k c qs m, e = .returned (.tuple #[.slice B k c, .int .i64 m]) ∧ (∀ w2, Stp r w' w2 → Ints w2 B k qs) ∧ k ≤ 9 ∧ k ≤ c ∧ c ≤ maxLen ∧ (∀ z ∈ qs, Sm z) ∧ Sm m ∧ RB w' r B' ∧ Stp r w w'
set_option maxRecDepth 100000 in
theorem pay_ok (r : Nat) (B : Nat) (w : World) (h : RB w r B) (hB : B ≤ 700000000) :
    Calls Tryd.prog 49 #[.pointer (some ⟨r, 0, none⟩)] w (DP w r (B + 40)) := by
  go_enter Tryd.func49, Tryd.ntmps49
  go_wp2_with (first
    | (go_at_call 88; ((with_reducible refine (coins_ok r 9 _ _ h ?_ ?_ ?_).mono ?_); (omega); (omega); (omega); rintro e w2 ⟨G, k, c, qs, rfl, hB1, k1, k2, k3, k4, hr2, hs⟩; have HB1 := Lib.hid hB1; clear h hB1))
    | (go_at_call 89; ((with_reducible refine (amount_sm r _ _ hr2 ?_).mono ?_); (omega); rintro e w3 ⟨x, rfl, hx, hr3, hs3⟩)))
  refine bodyPost_ret (v := .tuple #[.slice G k c, .int .i64 x]) (by simp [results, Tryd.results49, go_sem]) rfl ?_
  exact ⟨G, k, c, qs, x, rfl, fun w2 h2 => HB1.out _ (hs3.trans h2), by omega, k2, k3, k4, hx, hr3.le (by omega), hs.trans hs3⟩
/-- a drawn list and an amount, without the reader -/
def DPA (w : World) (B : Option Addr) (k c : Nat) (qs : List Int) (m : Int) (w' : World) : Prop := Ints w' B k qs ∧ k ≤ 9 ∧ k ≤ c ∧ c ≤ maxLen ∧ (∀ z ∈ qs, Sm z) ∧ Sm m ∧ Below w.heap.size w w'
end Go.Proofs.YtoiaggjjfahabaaDoor
