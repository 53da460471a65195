/- Plain: the bookings whose bits a number has; the greatest number of them that can be picked; the greatest value of those that do not overlap. No condition but valid bookings. -/
import Derived.Test.YtghfdkalblipgaaDoorPSub
namespace Go.Proofs.YtghfdkalblipgaaDoor
set_option linter.unusedVariables false
/-- of the first k bookings those whose bits s has -/
def subTo (qs : List Quad) (s : Nat) : Nat → List Quad
  | 0 => []
  | k + 1 => if s.testBit k then subTo qs s k ++ [qs.getD k q0] else subTo qs s k
def subV (qs : List Quad) (s : Nat) : List Quad := subTo qs s qs.length
theorem subTo_sub (qs : List Quad) (s k : Nat) (hk : k ≤ qs.length) : (subTo qs s k).Sublist (qs.take k) := by
  induction k with
  | zero => simp [subTo]
  | succ k ih =>
    have ih := ih (by omega)
    have g : qs.getD k q0 = qs[k] := by rw [List.getD_eq_getElem?_getD, List.getElem?_eq_getElem (by omega)]; rfl
    rw [List.take_succ_eq_append_getElem (by omega)]
    unfold subTo
    split
    · rw [g]; exact List.Sublist.append ih (List.Sublist.refl _)
    · have := List.Sublist.append ih (List.nil_sublist [qs[k]])
      rwa [List.append_nil] at this
theorem subV_sub (qs : List Quad) (s : Nat) : (subV qs s).Sublist qs := by
  have := subTo_sub qs s qs.length (Nat.le_refl _)
  rwa [List.take_length] at this
theorem subTo_len (qs : List Quad) (s k : Nat) : (subTo qs s k).length ≤ k := by
  induction k with
  | zero => simp [subTo]
  | succ k ih =>
    unfold subTo
    split
    · simp; omega
    · omega
theorem subTo_at (qs : List Quad) (s : Nat) (h : Int) (k : Nat) : baV (subTo qs s (k + 1)) h = baV (subTo qs s k) h + if s.testBit k = true ∧ atH (qs.getD k q0) h then 1 else 0 := by
  conv => lhs; unfold subTo
  by_cases hb : s.testBit k = true
  · rw [if_pos hb, baV_append, baV_cons, baV_nil]
    by_cases ha : atH (qs.getD k q0) h
    · rw [if_pos ha, if_pos ⟨hb, ha⟩]; omega
    · rw [if_neg ha, if_neg (fun g => ha g.2)]; omega
  · rw [if_neg hb, if_neg (fun g => hb g.1)]; omega
/-- all bits -/
theorem subTo_all (qs : List Quad) (n k : Nat) (hk : k ≤ n) (hn : n ≤ qs.length) : subTo qs (2 ^ n - 1) k = qs.take k := by
  induction k with
  | zero => simp [subTo]
  | succ k ih =>
    have g : qs.getD k q0 = qs[k] := by rw [List.getD_eq_getElem?_getD, List.getElem?_eq_getElem (by omega)]; rfl
    unfold subTo
    rw [if_pos (by rw [Nat.testBit_two_pow_sub_one]; simp; omega), ih (by omega), List.take_succ_eq_append_getElem (by omega), g]
theorem subV_all (qs : List Quad) : subV qs (2 ^ qs.length - 1) = qs := by
  unfold subV
  rw [subTo_all qs qs.length qs.length (Nat.le_refl _) (Nat.le_refl _), List.take_length]
theorem subTo_none (qs : List Quad) (k : Nat) : subTo qs 0 k = [] := by
  induction k with
  | zero => rfl
  | succ k ih => unfold subTo; rw [ih]; simp
/-- the greatest number picked of the sets before s; b: what it began with -/
def pkTo (qs : List Quad) (p b : Int) : Nat → Int
  | 0 => b
  | s + 1 => if pkTo qs p b s < (subV qs s).length ∧ bmV (subV qs s) ≤ p then ((subV qs s).length : Int) else pkTo qs p b s
def pkV (qs : List Quad) (p : Int) : Int := if bsV qs = true ∧ 0 ≤ p then pkTo qs p 0 (2 ^ qs.length) else -1
theorem bmV_nil : bmV [] = 0 := by
  unfold bmV
  rw [if_pos bsV_nil]
  have h1 := bmTo_bd [] 30
  simp at h1; omega
theorem pkTo_start (qs : List Quad) (p : Int) (hp : 0 ≤ p) (s : Nat) : pkTo qs p (-1) (s + 1) = pkTo qs p 0 (s + 1) := by
  induction s with
  | zero =>
    unfold pkTo pkTo
    have e : subV qs 0 = [] := subTo_none qs _
    rw [e, bmV_nil]
    simp; omega
  | succ s ih =>
    unfold pkTo
    rw [ih]
theorem pkTo_spec (qs : List Quad) (p : Int) (hp : 0 ≤ p) (S : Nat) : (∀ s, s < S → bmV (subV qs s) ≤ p → ((subV qs s).length : Int) ≤ pkTo qs p 0 S) ∧ ((pkTo qs p 0 S = 0) ∨ ∃ s, s < S ∧ bmV (subV qs s) ≤ p ∧ pkTo qs p 0 S = (subV qs s).length) := by
  induction S with
  | zero => exact ⟨fun s hs => absurd hs (by omega), .inl rfl⟩
  | succ S ih =>
    unfold pkTo
    by_cases h : pkTo qs p 0 S < (subV qs S).length ∧ bmV (subV qs S) ≤ p
    · rw [if_pos h]
      refine ⟨fun s hs hb => ?_, .inr ⟨S, by omega, h.2, rfl⟩⟩
      by_cases e : s = S
      · subst e; exact Int.le_refl _
      · have := ih.1 s (by omega) hb; omega
    · rw [if_neg h]
      refine ⟨fun s hs hb => ?_, ?_⟩
      · by_cases e : s = S
        · subst e; omega
        · exact ih.1 s (by omega) hb
      · rcases ih.2 with e | ⟨s, a, b, c⟩
        · exact .inl e
        · exact .inr ⟨s, by omega, b, c⟩
theorem pkTo_bd (qs : List Quad) (p : Int) (hp : 0 ≤ p) (S : Nat) : 0 ≤ pkTo qs p 0 S ∧ pkTo qs p 0 S ≤ qs.length := by
  induction S with
  | zero => simp [pkTo]
  | succ S ih =>
    have := subTo_len qs S qs.length
    unfold pkTo subV
    split <;> omega
theorem bmV_sub {xs qs : List Quad} (h : xs.Sublist qs) (hv : bsV qs = true) : bmV xs ≤ bmV qs := by
  unfold bmV
  rw [if_pos hv, if_pos (bsV_sub h hv)]
  exact bmTo_sub h 30
/-- one place more is never worse -/
theorem pk_more {qs : List Quad} (hv : bsV qs = true) {p : Int} (hp : 0 ≤ p) : pkV qs p ≤ pkV qs (p + 1) := by
  unfold pkV
  rw [if_pos ⟨hv, hp⟩, if_pos ⟨hv, by omega⟩]
  rcases (pkTo_spec qs p hp (2 ^ qs.length)).2 with e | ⟨s, a, b, c⟩
  · rw [e]; exact (pkTo_bd qs (p + 1) (by omega) _).1
  · rw [c]; exact (pkTo_spec qs (p + 1) (by omega) _).1 s a (by omega)
theorem bmV_nn {qs : List Quad} (hv : bsV qs = true) : 0 ≤ bmV qs := by
  unfold bmV; rw [if_pos hv]; exact (bmTo_bd qs 30).1
/-- all can be picked exactly if there are as many places as overlap at once -/
theorem pk_all {qs : List Quad} (hv : bsV qs = true) {p : Int} (hp : 0 ≤ p) : pkV qs p = qs.length ↔ bmV qs ≤ p := by
  unfold pkV
  rw [if_pos ⟨hv, hp⟩]
  have hb := pkTo_bd qs p hp (2 ^ qs.length)
  have h2 : 0 < 2 ^ qs.length := Nat.two_pow_pos _
  constructor
  · intro h
    rcases (pkTo_spec qs p hp (2 ^ qs.length)).2 with e | ⟨s, a, b, c⟩
    · have : qs = [] := List.eq_nil_of_length_eq_zero (by omega)
      subst this; rw [bmV_nil]; exact hp
    · have : subV qs s = qs := (subV_sub qs s).eq_of_length (by omega)
      rw [this] at b; exact b
  · intro h
    have := (pkTo_spec qs p hp (2 ^ qs.length)).1 (2 ^ qs.length - 1) (by omega) (by rw [subV_all]; exact h)
    rw [subV_all] at this
    omega
theorem bm_pos {qs : List Quad} (hv : bsV qs = true) (h : 0 < qs.length) : 1 ≤ bmV qs := by
  have hm := bs_mem hv
  cases qs with
  | nil => simp at h
  | cons q qs =>
    have hq := hm.2 q (List.mem_cons_self ..)
    have h1 := (bmTo_spec (q :: qs) 30).1 q.b.toNat (by omega)
    rw [show ((q.b.toNat : Nat) : Int) = q.b by omega, baV_cons, if_pos ⟨by omega, by omega⟩] at h1
    have := (baV_bd qs q.b).1
    unfold bmV
    rw [if_pos hv]
    omega
/-- with no places none can be picked -/
theorem pk_zero {qs : List Quad} (hv : bsV qs = true) : pkV qs 0 = 0 := by
  unfold pkV
  rw [if_pos ⟨hv, Int.le_refl _⟩]
  rcases (pkTo_spec qs 0 (Int.le_refl _) (2 ^ qs.length)).2 with e | ⟨s, a, b, c⟩
  · exact e
  · rcases Nat.eq_zero_or_pos (subV qs s).length with h | h
    · omega
    · have := bm_pos (bsV_sub (subV_sub qs s) hv) h
      omega
end Go.Proofs.YtghfdkalblipgaaDoor
