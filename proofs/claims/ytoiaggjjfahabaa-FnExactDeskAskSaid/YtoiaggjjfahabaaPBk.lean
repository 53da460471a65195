/- Plain laws on how many bookings have an hour. No condition. -/
import Derived.Test.YtoiaggjjfahabaaBVal
import Derived.Test.YtoiaggjjfahabaaBAt
namespace Go.Proofs.Ytoiaggjjfahabaa
open Go.RowKit
set_option linter.unusedVariables false
theorem baTo_cons (q : Quad) (qs : List Quad) (h : Int) (k : Nat) : baTo (q :: qs) h (k + 1) = (if atH q h then 1 else 0) + baTo qs h k := by
  induction k with
  | zero => simp [baTo]
  | succ k ih =>
    have e1 : baTo (q :: qs) h (k + 1 + 1) = baTo (q :: qs) h (k + 1) + if atH ((q :: qs).getD (k + 1) q0) h then 1 else 0 := rfl
    have e2 : baTo qs h (k + 1) = baTo qs h k + if atH (qs.getD k q0) h then 1 else 0 := rfl
    rw [e1, e2, ih, List.getD_cons_succ]
    omega
theorem baV_cons (q : Quad) (qs : List Quad) (h : Int) : baV (q :: qs) h = (if atH q h then 1 else 0) + baV qs h := baTo_cons q qs h qs.length
theorem baV_nil (h : Int) : baV [] h = 0 := rfl
theorem baV_append (xs ys : List Quad) (h : Int) : baV (xs ++ ys) h = baV xs h + baV ys h := by
  induction xs with
  | nil => simp [baV_nil]
  | cons x xs ih => rw [List.cons_append, baV_cons, baV_cons, ih]; omega
theorem baV_split (qs : List Quad) (h : Int) (k : Nat) : baV (qs.take k) h + baV (qs.drop k) h = baV qs h := by
  rw [← baV_append, List.take_append_drop]
theorem baV_bd (qs : List Quad) (h : Int) : 0 ≤ baV qs h ∧ baV qs h ≤ qs.length := baTo_bd qs h qs.length
def sumH (qs : List Quad) : Nat → Int
  | 0 => 0
  | k + 1 => sumH qs k + baV qs k
def durTo (qs : List Quad) : Nat → Int
  | 0 => 0
  | k + 1 => durTo qs k + (qs.getD k q0).c - (qs.getD k q0).b
theorem sumH_bd (qs : List Quad) (k : Nat) : 0 ≤ sumH qs k ∧ sumH qs k ≤ k * qs.length := by
  induction k with
  | zero => simp [sumH]
  | succ k ih =>
    have := baV_bd qs k
    have e : ((k + 1 : Nat) : Int) * qs.length = k * qs.length + qs.length := by rw [show ((k + 1 : Nat) : Int) = (k : Int) + 1 by omega, Int.add_mul]; omega
    unfold sumH
    omega
theorem sumH_nil (k : Nat) : sumH [] k = 0 := by
  induction k with
  | zero => rfl
  | succ k ih => unfold sumH; rw [ih, baV_nil]; rfl
theorem sumH_cons (q : Quad) (qs : List Quad) (h0 : 0 ≤ q.b) (h1 : q.b < q.c) (k : Nat) : sumH (q :: qs) k = min (k : Int) q.c - min (k : Int) q.b + sumH qs k := by
  induction k with
  | zero => simp [sumH]; omega
  | succ k ih =>
    have e1 : sumH (q :: qs) (k + 1) = sumH (q :: qs) k + baV (q :: qs) k := rfl
    have e2 : sumH qs (k + 1) = sumH qs k + baV qs k := rfl
    rw [e1, e2, ih, baV_cons]
    by_cases hc : atH q k
    · rw [if_pos hc]; unfold atH at hc; omega
    · rw [if_neg hc]; unfold atH at hc; omega
theorem durTo_cons (q : Quad) (qs : List Quad) (k : Nat) : durTo (q :: qs) (k + 1) = q.c - q.b + durTo qs k := by
  induction k with
  | zero => simp [durTo]
  | succ k ih =>
    have e1 : durTo (q :: qs) (k + 1 + 1) = durTo (q :: qs) (k + 1) + ((q :: qs).getD (k + 1) q0).c - ((q :: qs).getD (k + 1) q0).b := rfl
    have e2 : durTo qs (k + 1) = durTo qs k + (qs.getD k q0).c - (qs.getD k q0).b := rfl
    rw [e1, e2, ih, List.getD_cons_succ]
    omega
theorem sum_dur (qs : List Quad) (h : ∀ q ∈ qs, 0 ≤ q.b ∧ q.b < q.c ∧ q.c ≤ 30) : sumH qs 30 = durTo qs qs.length := by
  induction qs with
  | nil => exact sumH_nil 30
  | cons q qs ih =>
    have hq := h q (List.mem_cons_self ..)
    rw [sumH_cons q qs hq.1 hq.2.1, ih (fun x hx => h x (List.mem_cons_of_mem _ hx)), List.length_cons, durTo_cons]
    omega
theorem bs_mem {qs : List Quad} (h : bsV qs = true) : qs.length ≤ 7 ∧ ∀ q ∈ qs, 0 ≤ q.b ∧ q.b < q.c ∧ q.c ≤ 30 ∧ 0 ≤ q.d ∧ q.d ≤ 99 := by
  unfold bsV at h
  rw [decide_eq_true_iff] at h
  refine ⟨h.1, fun q hq => ?_⟩
  obtain ⟨i, hi, rfl⟩ := List.getElem_of_mem hq
  have := (h.2 i hi).1
  rw [List.getD_eq_getElem?_getD, List.getElem?_eq_getElem hi] at this
  unfold bv at this
  rw [decide_eq_true_iff] at this
  simp only [Option.getD_some] at this
  omega
theorem durTo_bd {qs : List Quad} (h : ∀ q ∈ qs, 0 ≤ q.b ∧ q.b < q.c ∧ q.c ≤ 30) (k : Nat) (hk : k ≤ qs.length) : 0 ≤ durTo qs k ∧ durTo qs k ≤ 30 * k := by
  induction k with
  | zero => simp [durTo]
  | succ k ih =>
    have := ih (by omega)
    have e : qs.getD k q0 = qs[k]'(by omega) := by rw [List.getD_eq_getElem?_getD, List.getElem?_eq_getElem (by omega)]; rfl
    have hq := h _ (List.getElem_mem (by omega : k < qs.length))
    unfold durTo
    rw [e]
    omega
/-- the first k bookings, and those behind them -/
theorem Books.drop {w : World} {b off n k : Nat} {qs : List Quad} (h : Books w (some ⟨b, off, none⟩) n qs) (hk : k ≤ n) : Books w (some ⟨b, off + k * 4, none⟩) (n - k) (qs.drop k) := by
  refine ⟨by rw [List.length_drop, h.1], fun hn => ?_⟩
  obtain ⟨b', off', e, hlt, hc⟩ := h.2 (by omega)
  simp only [Option.some.injEq, Addr.mk.injEq, and_true] at e
  obtain ⟨rfl, rfl⟩ := e
  refine ⟨_, _, rfl, hlt, fun j hj => ?_⟩
  obtain ⟨h1, h2, h3, h4⟩ := hc (k + j) (by omega)
  have e : (qs.drop k).getD j q0 = qs.getD (k + j) q0 := by simp [List.getD_eq_getElem?_getD]
  rw [e, show off + k * 4 + j * 4 = off + (k + j) * 4 by omega]
  exact ⟨h1, h2, h3, h4⟩
end Go.Proofs.Ytoiaggjjfahabaa
