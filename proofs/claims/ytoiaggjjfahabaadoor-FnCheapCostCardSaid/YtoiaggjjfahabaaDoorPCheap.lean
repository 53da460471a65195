/- Plain: the cheapest loads: the least hours first; no plan of the most units costs less. No program. -/
import Derived.Test.YtoiaggjjfahabaaDoorPPlan
namespace Go.Proofs.YtoiaggjjfahabaaDoor
set_option linter.unusedVariables false
/-- the feed of the hours that t has, and nothing else -/
def rstr (cs : List Int) (t : Nat) : List Int := (List.range 6).map fun h => if t.testBit h then cs.getD h 0 else 0
theorem rstr_at (cs : List Int) (t h : Nat) : (rstr cs t).getD h 0 = if h < 6 ∧ t.testBit h = true then cs.getD h 0 else 0 := by
  unfold rstr
  rw [List.getD_eq_getElem?_getD, List.getElem?_map]
  by_cases g : h < 6
  · rw [List.getElem?_range g]
    cases hb : t.testBit h <;> simp [-List.getD_eq_getElem?_getD, g, hb]
  · rw [List.getElem?_eq_none (by simp [-List.getD_eq_getElem?_getD]; omega)]
    simp [-List.getD_eq_getElem?_getD, g]
theorem rstr_len (cs : List Int) (t : Nat) : (rstr cs t).length = 6 := by simp [-List.getD_eq_getElem?_getD, rstr]
theorem rstr_nn {cs : List Int} (h : NN cs) (t : Nat) : NN (rstr cs t) := fun k => by
  rw [rstr_at]; split
  · exact h k
  · exact Int.le_refl _
theorem rstr_feed (cs : List Int) (t s n : Nat) (hn : n ≤ 6) : cFeed (rstr cs t) s n = cFeed cs (s &&& t) n := by
  induction n with
  | zero => rfl
  | succ n ih =>
    unfold cFeed
    rw [ih (by omega), rstr_at, Nat.testBit_and]
    cases s.testBit n <;> cases t.testBit n <;> simp [-List.getD_eq_getElem?_getD] <;> omega
/-- the most with the hours of t alone -/
def fV (us : List Int) (rss : List (List Int)) (cs : List Int) (t : Nat) : Int := lcV us rss (rstr cs t)
theorem fV_cut (us : List Int) (rss : List (List Int)) (cs : List Int) (t s : Nat) : cutV us rss (rstr cs t) s = cFeed cs (s &&& t) 6 + cCars us rss s us.length := by
  unfold cutV; rw [rstr_feed cs t s 6 (Nat.le_refl _)]
section
variable {us : List Int} {rss : List (List Int)} {cs : List Int}
theorem fV_nn (hu : NN us) (hr : ∀ k, NN (rss.getD k [])) (hc : NN cs) (t : Nat) : 0 ≤ fV us rss cs t := lcV_ge fun s _ => cutV_nn us rss _ hu hr (rstr_nn hc t) s
theorem cRate_all (rs : List Int) (hr : ∀ k, 6 ≤ k → rs.getD k 0 = 0) : cRate rs 63 6 = 0 := by
  simp [-List.getD_eq_getElem?_getD, cRate, show (63 : Nat).testBit 0 = true from rfl, show (63 : Nat).testBit 1 = true from rfl, show (63 : Nat).testBit 2 = true from rfl, show (63 : Nat).testBit 3 = true from rfl, show (63 : Nat).testBit 4 = true from rfl, show (63 : Nat).testBit 5 = true from rfl]
theorem cRate63 (rs : List Int) : cRate rs 63 6 = 0 := by
  simp [-List.getD_eq_getElem?_getD, cRate, show (63 : Nat).testBit 0 = true from rfl, show (63 : Nat).testBit 1 = true from rfl, show (63 : Nat).testBit 2 = true from rfl, show (63 : Nat).testBit 3 = true from rfl, show (63 : Nat).testBit 4 = true from rfl, show (63 : Nat).testBit 5 = true from rfl]
theorem cCars63 (hu : NN us) (n : Nat) : cCars us rss 63 n = 0 := by
  induction n with
  | zero => rfl
  | succ n ih => have := hu n; unfold cCars; rw [ih, cRate63]; omega
theorem fV_zero (hu : NN us) (hr : ∀ k, NN (rss.getD k [])) (hc : NN cs) : fV us rss cs 0 = 0 := by
  have h1 := fV_nn hu hr hc 0
  have h2 := lcV_le us rss (rstr cs 0) 63 (by omega)
  rw [fV_cut, cCars63 hu, Nat.and_zero] at h2
  have key : ∀ n, cFeed cs 0 n = 0 := fun n => by induction n with | zero => rfl | succ n ih => unfold cFeed; rw [ih]; simp [-List.getD_eq_getElem?_getD]
  rw [key] at h2
  unfold fV at h1 ⊢
  omega
/-- an hour more is worth no less, and no more the more hours there are already -/
theorem fV_sub (hr : ∀ k, NN (rss.getD k [])) (hc : NN cs) (a b : Nat) : fV us rss cs (a ||| b) + fV us rss cs (a &&& b) ≤ fV us rss cs a + fV us rss cs b := by
  obtain ⟨s, hs, es⟩ := lcV_at us rss (rstr cs a)
  obtain ⟨t, ht, et⟩ := lcV_at us rss (rstr cs b)
  have l1 := lcV_le us rss (rstr cs (a ||| b)) (s &&& t) (and64 hs)
  have l2 := lcV_le us rss (rstr cs (a &&& b)) (s ||| t) (or64 hs ht)
  rw [fV_cut] at es et l1 l2
  have m2 := cCars_sub us rss hr s t us.length
  have key : ∀ n, cFeed cs ((s &&& t) &&& (a ||| b)) n + cFeed cs ((s ||| t) &&& (a &&& b)) n ≤ cFeed cs (s &&& a) n + cFeed cs (t &&& b) n := by
    intro n
    induction n with
    | zero => exact Int.le_refl _
    | succ n ih =>
      have := hc n
      unfold cFeed
      simp only [Nat.testBit_or, Nat.testBit_and]
      cases s.testBit n <;> cases t.testBit n <;> cases a.testBit n <;> cases b.testBit n <;> simp [-List.getD_eq_getElem?_getD] <;> omega
  have := key 6
  unfold fV
  omega
theorem fV_mono (hc : NN cs) (a b : Nat) (h : ∀ j, a.testBit j = true → b.testBit j = true) : fV us rss cs a ≤ fV us rss cs b := by
  obtain ⟨t, ht, et⟩ := lcV_at us rss (rstr cs b)
  have l1 := lcV_le us rss (rstr cs a) t ht
  rw [fV_cut] at et l1
  have key : ∀ n, cFeed cs (t &&& a) n ≤ cFeed cs (t &&& b) n := by
    intro n
    induction n with
    | zero => exact Int.le_refl _
    | succ n ih =>
      have := hc n
      have g := h n
      unfold cFeed
      simp only [Nat.testBit_and]
      cases e : a.testBit n
      · cases t.testBit n <;> cases b.testBit n <;> simp [-List.getD_eq_getElem?_getD] <;> omega
      · rw [g e]; cases t.testBit n <;> simp [-List.getD_eq_getElem?_getD] <;> omega
  have := key 6
  unfold fV
  omega
theorem fV_step (a h : Nat) (hh : h < 6) (hb : a.testBit h = false) : fV us rss cs (a ||| 2 ^ h) ≤ fV us rss cs a + max (cs.getD h 0) 0 := by
  obtain ⟨t, ht, et⟩ := lcV_at us rss (rstr cs a)
  have l1 := lcV_le us rss (rstr cs (a ||| 2 ^ h)) t ht
  rw [fV_cut] at et l1
  have key : ∀ n, cFeed cs (t &&& (a ||| 2 ^ h)) n ≤ cFeed cs (t &&& a) n + if h < n then max (cs.getD h 0) 0 else 0 := by
    intro n
    induction n with
    | zero => simp [-List.getD_eq_getElem?_getD, cFeed]
    | succ n ih =>
      unfold cFeed
      simp only [Nat.testBit_and, Nat.testBit_or, Nat.testBit_two_pow]
      by_cases e : h = n
      · subst e
        rw [hb]
        rw [if_neg (Nat.lt_irrefl h)] at ih
        rw [if_pos (Nat.lt_succ_self h)]
        cases t.testBit h <;> simp [-List.getD_eq_getElem?_getD] <;> omega
      · have e2 : decide (h = n) = false := by simpa using e
        rw [e2, Bool.or_false]
        by_cases g : h < n
        · rw [if_pos g] at ih; rw [if_pos (show h < n + 1 by omega)]; split <;> omega
        · rw [if_neg g] at ih; rw [if_neg (show ¬ h < n + 1 by omega)]; split <;> omega
  have := key 6
  rw [if_pos hh] at this
  unfold fV
  omega
end
/-- the hours in an order: the sets of the first ones -/
def pre (o : List Nat) : Nat → Nat
  | 0 => 0
  | n + 1 => pre o n ||| 2 ^ o.getD n 0
/-- the loads of the first n hours of an order -/
def ldTo (us : List Int) (rss : List (List Int)) (cs : List Int) (o : List Nat) : Nat → List Int
  | 0 => List.replicate 6 0
  | n + 1 => (ldTo us rss cs o n).set (o.getD n 0) (fV us rss cs (pre o (n + 1)) - fV us rss cs (pre o n))
/-- the order names every hour once -/
structure Ord (o : List Nat) : Prop where
  len : o.length = 6
  lt : ∀ n, n < 6 → o.getD n 0 < 6
  inj : ∀ n m, n < 6 → m < 6 → o.getD n 0 = o.getD m 0 → n = m
theorem pre_bit (o : List Nat) (n j : Nat) : (pre o n).testBit j = true ↔ ∃ m, m < n ∧ o.getD m 0 = j := by
  induction n with
  | zero => simp [-List.getD_eq_getElem?_getD, pre]
  | succ n ih =>
    unfold pre
    rw [Nat.testBit_or, Bool.or_eq_true, ih, Nat.testBit_two_pow, decide_eq_true_iff]
    constructor
    · rintro (⟨m, h1, h2⟩ | h)
      · exact ⟨m, by omega, h2⟩
      · exact ⟨n, by omega, h⟩
    · rintro ⟨m, h1, h2⟩
      by_cases e : m = n
      · subst e; exact .inr h2
      · exact .inl ⟨m, by omega, h2⟩
theorem Ord.fresh {o : List Nat} (ho : Ord o) {n : Nat} (hn : n < 6) : (pre o n).testBit (o.getD n 0) = false := by
  cases h : (pre o n).testBit (o.getD n 0) with
  | false => rfl
  | true =>
    obtain ⟨m, h1, h2⟩ := (pre_bit o n _).1 h
    have := ho.inj m n (by omega) hn h2
    omega
theorem ldTo_len (us : List Int) (rss : List (List Int)) (cs : List Int) (o : List Nat) (n : Nat) : (ldTo us rss cs o n).length = 6 := by
  induction n with
  | zero => simp [-List.getD_eq_getElem?_getD, ldTo]
  | succ n ih => simp [-List.getD_eq_getElem?_getD, ldTo, ih]
section
variable {us : List Int} {rss : List (List Int)} {cs : List Int} {o : List Nat}
theorem ld_fresh (ho : Ord o) {n : Nat} (hn : n ≤ 6) (j : Nat) (hj : (pre o n).testBit j = false) : (ldTo us rss cs o n).getD j 0 = 0 := by
  induction n with
  | zero => show (List.replicate 6 (0 : Int)).getD j 0 = 0; rw [List.getD_eq_getElem?_getD, List.getElem?_replicate]; split <;> rfl
  | succ n ih =>
    unfold pre at hj
    rw [Nat.testBit_or, Bool.or_eq_false_iff, Nat.testBit_two_pow, decide_eq_false_iff_not] at hj
    unfold ldTo
    rw [getD_set, if_neg (fun g => hj.2 g.1)]
    exact ih (by omega) hj.1
/-- the loads of a set are at most what can be given in its hours -/
theorem ld_le (ho : Ord o) (hu : NN us) (hr : ∀ k, NN (rss.getD k [])) (hc : NN cs) (T : Nat) (n : Nat) (hn : n ≤ 6) : cFeed (ldTo us rss cs o n) T 6 ≤ fV us rss cs (pre o n &&& T) ∧ ∀ j, 0 ≤ (ldTo us rss cs o n).getD j 0 ∧ (ldTo us rss cs o n).getD j 0 ≤ cs.getD j 0 := by
  induction n with
  | zero =>
    have key : ∀ m, cFeed (ldTo us rss cs o 0) T m = 0 := by
      intro m
      induction m with
      | zero => rfl
      | succ m ih => unfold cFeed; rw [ih]; have := ld_fresh (us := us) (rss := rss) (cs := cs) ho (Nat.zero_le 6) m (by simp [-List.getD_eq_getElem?_getD, pre]); rw [this]; simp [-List.getD_eq_getElem?_getD]
    rw [key]
    refine ⟨fV_nn hu hr hc _, fun j => ?_⟩
    rw [ld_fresh ho (Nat.zero_le 6) j (by simp [-List.getD_eq_getElem?_getD, pre])]
    exact ⟨Int.le_refl _, hc j⟩
  | succ n ih =>
    obtain ⟨i1, i2⟩ := ih (by omega)
    have fr := ho.fresh (show n < 6 by omega)
    have h6 := ho.lt n (by omega)
    have z := ld_fresh (us := us) (rss := rss) (cs := cs) ho (show n ≤ 6 by omega) _ fr
    have hl := ldTo_len us rss cs o n
    have hst := fV_step (us := us) (rss := rss) (cs := cs) (pre o n) (o.getD n 0) h6 fr
    have hc0 := hc (o.getD n 0)
    have hmo := fV_mono (us := us) (rss := rss) hc (pre o n) (pre o (n + 1)) fun j hj => by unfold pre; rw [Nat.testBit_or, hj, Bool.true_or]
    refine ⟨?_, fun j => ?_⟩
    · unfold ldTo
      rw [cFeed_set _ _ _ _ _ (by omega), z]
      by_cases hT : T.testBit (o.getD n 0) = true
      · rw [if_pos ⟨h6, hT⟩]
        have hs := fV_sub (us := us) (rss := rss) hr hc (pre o n) (pre o (n + 1) &&& T)
        have e1 : pre o n ||| (pre o (n + 1) &&& T) = pre o (n + 1) := by
          apply Nat.eq_of_testBit_eq
          intro j
          have e : pre o (n + 1) = pre o n ||| 2 ^ o.getD n 0 := rfl
          rw [e, Nat.testBit_or, Nat.testBit_and, Nat.testBit_or, Nat.testBit_two_pow]
          by_cases g : o.getD n 0 = j
          · subst g; rw [hT]; simp [-List.getD_eq_getElem?_getD]
          · have : decide (o.getD n 0 = j) = false := by simpa using g
            rw [this]; cases (pre o n).testBit j <;> simp [-List.getD_eq_getElem?_getD]
        have e2 : pre o n &&& (pre o (n + 1) &&& T) = pre o n &&& T := by
          apply Nat.eq_of_testBit_eq
          intro j
          have e : pre o (n + 1) = pre o n ||| 2 ^ o.getD n 0 := rfl
          rw [e, Nat.testBit_and, Nat.testBit_and, Nat.testBit_or, Nat.testBit_and]
          cases (pre o n).testBit j <;> simp [-List.getD_eq_getElem?_getD]
        rw [e1, e2] at hs
        omega
      · rw [if_neg (fun g => hT g.2)]
        have e2 : pre o (n + 1) &&& T = pre o n &&& T := by
          apply Nat.eq_of_testBit_eq
          intro j
          have e : pre o (n + 1) = pre o n ||| 2 ^ o.getD n 0 := rfl
          rw [e, Nat.testBit_and, Nat.testBit_or, Nat.testBit_and, Nat.testBit_two_pow]
          by_cases g : o.getD n 0 = j
          · subst g
            have : T.testBit (o.getD n 0) = false := by simpa using hT
            rw [this]; simp [-List.getD_eq_getElem?_getD]
          · have : decide (o.getD n 0 = j) = false := by simpa using g
            rw [this]; simp [-List.getD_eq_getElem?_getD]
        rw [e2]; omega
    · unfold ldTo
      rw [getD_set]
      split
      · rename_i g
        obtain ⟨rfl, _⟩ := g
        have e : pre o (n + 1) = pre o n ||| 2 ^ o.getD n 0 := rfl
        rw [e] at hmo ⊢
        omega
      · exact i2 j
/-- the sum over the hours below n that s has -/
def bsum (z : Nat → Int) (s : Nat) : Nat → Int
  | 0 => 0
  | h + 1 => bsum z s h + if s.testBit h then z h else 0
theorem bsum_or (z : Nat → Int) (s h n : Nat) (hb : s.testBit h = false) : bsum z (s ||| 2 ^ h) n = bsum z s n + if h < n then z h else 0 := by
  induction n with
  | zero => simp [-List.getD_eq_getElem?_getD, bsum]
  | succ n ih =>
    unfold bsum
    rw [ih, Nat.testBit_or, Nat.testBit_two_pow]
    by_cases e : h = n
    · subst e; rw [hb]; simp [-List.getD_eq_getElem?_getD]
    · have e2 : decide (h = n) = false := by simpa using e
      rw [e2, Bool.or_false]
      by_cases g : h < n
      · rw [if_pos g, if_pos (show h < n + 1 by omega)]; omega
      · rw [if_neg g, if_neg (show ¬ h < n + 1 by omega)]; omega
/-- all hours -/
theorem Ord.all (ho : Ord o) : pre o 6 = 63 := by
  apply Nat.eq_of_testBit_eq
  intro j
  have h63 : (63 : Nat).testBit j = decide (j < 6) := Nat.testBit_two_pow_sub_one 6 j
  rw [h63]
  by_cases hj : j < 6
  · rw [decide_eq_true hj, pre_bit]
    rw [← pre_bit]
    have cnt : ∀ n, n ≤ 6 → bsum (fun _ => 1) (pre o n) 6 = n := by
      intro n
      induction n with
      | zero => intro _; simp [bsum, pre]
      | succ n ih =>
        intro hn
        show bsum (fun _ => 1) (pre o n ||| 2 ^ o.getD n 0) 6 = _
        rw [bsum_or _ _ _ _ (ho.fresh (by omega)), if_pos (ho.lt n (by omega)), ih (by omega)]; omega
    have c6 := cnt 6 (Nat.le_refl _)
    cases hb : (pre o 6).testBit j with
    | true => rfl
    | false =>
      have key : ∀ n, bsum (fun _ => 1) (pre o 6) n ≤ (n : Int) - if j < n then 1 else 0 := by
        intro n
        induction n with
        | zero => simp [bsum]
        | succ n ih =>
          unfold bsum
          by_cases e : j = n
          · subst e
            rw [hb]
            rw [if_neg (Nat.lt_irrefl j)] at ih
            rw [if_pos (Nat.lt_succ_self j)]
            simp; omega
          · by_cases g : j < n
            · rw [if_pos g] at ih; rw [if_pos (show j < n + 1 by omega)]; split <;> omega
            · rw [if_neg g] at ih; rw [if_neg (show ¬ j < n + 1 by omega)]; split <;> omega
      have := key 6
      rw [if_pos hj] at this
      omega
  · rw [decide_eq_false hj]
    cases h : (pre o 6).testBit j with
    | false => rfl
    | true =>
      obtain ⟨m, h1, h2⟩ := (pre_bit o 6 _).1 h
      have := ho.lt m h1
      omega
/-- the sum of the loads -/
theorem ld_sum (ho : Ord o) (hu : NN us) (hr : ∀ k, NN (rss.getD k [])) (hc : NN cs) (n : Nat) (hn : n ≤ 6) : cFeed (ldTo us rss cs o n) 63 6 = fV us rss cs (pre o n) := by
  induction n with
  | zero =>
    have := (ld_le (us := us) (rss := rss) ho hu hr hc 63 0 (by omega)).1
    have h0 := fV_zero hu hr hc
    have g := cFeed_nn (ldTo us rss cs o 0) (fun j => ((ld_le (us := us) (rss := rss) ho hu hr hc 63 0 (by omega)).2 j).1) 63 6
    simp only [pre, Nat.zero_and] at this ⊢
    omega
  | succ n ih =>
    have fr := ho.fresh (show n < 6 by omega)
    have h6 := ho.lt n (by omega)
    have z := ld_fresh (us := us) (rss := rss) (cs := cs) ho (show n ≤ 6 by omega) _ fr
    have hl := ldTo_len us rss cs o n
    have hb : (63 : Nat).testBit (o.getD n 0) = true := by
      have : (63 : Nat).testBit (o.getD n 0) = decide (o.getD n 0 < 6) := Nat.testBit_two_pow_sub_one 6 _
      rw [this, decide_eq_true h6]
    unfold ldTo
    rw [cFeed_set _ _ _ _ _ (by omega), z, if_pos ⟨h6, hb⟩, ih (by omega)]
    omega
/-- with the loads themselves as the feed as much can be given -/
theorem ld_most (ho : Ord o) (hu : NN us) (hr : ∀ k, NN (rss.getD k [])) (hc : NN cs) : lcV us rss (ldTo us rss cs o 6) = fV us rss cs 63 := by
  have hs := ld_sum (us := us) (rss := rss) ho hu hr hc 6 (Nat.le_refl _)
  rw [ho.all] at hs
  have h1 := lcV_le us rss (ldTo us rss cs o 6) 63 (by omega)
  unfold cutV at h1
  rw [cCars63 hu, hs] at h1
  have h2 : fV us rss cs 63 ≤ lcV us rss (ldTo us rss cs o 6) := by
    refine lcV_ge fun s hsl => ?_
    have l := (ld_le (us := us) (rss := rss) ho hu hr hc (63 ^^^ s) 6 (Nat.le_refl _)).1
    rw [ho.all] at l
    have hx : 63 &&& (63 ^^^ s) = 63 ^^^ s := by
      apply Nat.eq_of_testBit_eq
      intro j
      have e : (63 : Nat).testBit j = decide (j < 6) := Nat.testBit_two_pow_sub_one 6 j
      rw [Nat.testBit_and, Nat.testBit_xor, e]
      by_cases g : j < 6
      · simp [-List.getD_eq_getElem?_getD, g]
      · have : s.testBit j = false := Nat.testBit_lt_two_pow (Nat.lt_of_lt_of_le hsl (Nat.pow_le_pow_right (n := 2) (by omega) (show 6 ≤ j by omega)))
        simp [-List.getD_eq_getElem?_getD, g, this]
    rw [hx] at l
    have m := lcV_le us rss (rstr cs (63 ^^^ s)) s hsl
    rw [fV_cut] at m
    have z : s &&& (63 ^^^ s) = 0 := by
      apply Nat.eq_of_testBit_eq
      intro j
      have e : (63 : Nat).testBit j = decide (j < 6) := Nat.testBit_two_pow_sub_one 6 j
      rw [Nat.testBit_and, Nat.testBit_xor, e, Nat.zero_testBit]
      by_cases g : j < 6
      · cases s.testBit j <;> simp [-List.getD_eq_getElem?_getD, g]
      · have : s.testBit j = false := Nat.testBit_lt_two_pow (Nat.lt_of_lt_of_le hsl (Nat.pow_le_pow_right (n := 2) (by omega) (show 6 ≤ j by omega)))
        simp [-List.getD_eq_getElem?_getD, g, this]
    have key : ∀ n, cFeed cs 0 n = 0 := fun n => by induction n with | zero => rfl | succ n ih => unfold cFeed; rw [ih]; simp [-List.getD_eq_getElem?_getD]
    rw [z, key] at m
    have sp : ∀ n, n ≤ 6 → cFeed (ldTo us rss cs o 6) 63 n = cFeed (ldTo us rss cs o 6) s n + cFeed (ldTo us rss cs o 6) (63 ^^^ s) n := by
      intro n
      induction n with
      | zero => intro _; rfl
      | succ n ih =>
        intro hn
        have e : (63 : Nat).testBit n = true := by
          have : (63 : Nat).testBit n = decide (n < 6) := Nat.testBit_two_pow_sub_one 6 n
          rw [this, decide_eq_true (by omega)]
        unfold cFeed
        rw [ih (by omega), Nat.testBit_xor, e]
        cases s.testBit n <;> simp [-List.getD_eq_getElem?_getD] <;> omega
    have := sp 6 (Nat.le_refl _)
    unfold cutV
    unfold fV at l hs ⊢
    omega
  omega
end
/-- what loads cost -/
def costTo (ls ps : List Int) : Nat → Int
  | 0 => 0
  | h + 1 => costTo ls ps h + ls.getD h 0 * ps.getD h 0
end Go.Proofs.YtoiaggjjfahabaaDoor
/- Plain: the hours by ascending prices; the loads that cost the least. No program. -/
namespace Go.Proofs.YtoiaggjjfahabaaDoor
set_option linter.unusedVariables false
theorem bsum_feed (cs : List Int) (s n : Nat) : bsum (fun h => cs.getD h 0) s n = cFeed cs s n := by
  induction n with
  | zero => rfl
  | succ n ih => unfold bsum cFeed; rw [ih]
theorem bsum_cost (ls ps : List Int) (n : Nat) (hn : n ≤ 6) : bsum (fun h => ls.getD h 0 * ps.getD h 0) 63 n = costTo ls ps n := by
  induction n with
  | zero => rfl
  | succ n ih =>
    have e : (63 : Nat).testBit n = true := by
      have : (63 : Nat).testBit n = decide (n < 6) := Nat.testBit_two_pow_sub_one 6 n
      rw [this, decide_eq_true (by omega)]
    unfold bsum costTo; rw [ih (by omega), e]; rfl
/-- of the hours below n that s has not the first of the least price; -1: there is none -/
def bstTo (ps : List Int) (s : Nat) : Nat → Int
  | 0 => -1
  | h + 1 => if s.testBit h = false ∧ (bstTo ps s h < 0 ∨ ps.getD h 0 < ps.getD (bstTo ps s h).toNat 0) then (h : Int) else bstTo ps s h
/-- hour i comes before hour j -/
def lx (ps : List Int) (i j : Nat) : Prop := ps.getD i 0 < ps.getD j 0 ∨ (ps.getD i 0 = ps.getD j 0 ∧ i < j)
instance (ps : List Int) (i j : Nat) : Decidable (lx ps i j) := by unfold lx; infer_instance
theorem bstTo_spec (ps : List Int) (s n : Nat) : (bstTo ps s n = -1 ∧ ∀ h, h < n → s.testBit h = true) ∨ (∃ b : Nat, bstTo ps s n = b ∧ b < n ∧ s.testBit b = false ∧ ∀ h, h < n → s.testBit h = false → h = b ∨ lx ps b h) := by
  induction n with
  | zero => exact .inl ⟨rfl, fun h hh => absurd hh (by omega)⟩
  | succ n ih =>
    unfold bstTo
    by_cases hc : s.testBit n = false ∧ (bstTo ps s n < 0 ∨ ps.getD n 0 < ps.getD (bstTo ps s n).toNat 0)
    · rw [if_pos hc]
      refine .inr ⟨n, rfl, by omega, hc.1, fun h hh hb => ?_⟩
      by_cases e : h = n
      · exact .inl e
      · rcases ih with ⟨i1, i2⟩ | ⟨b, i1, i2, i3, i4⟩
        · have := i2 h (by omega); rw [hb] at this; cases this
        · have h5 : ps.getD n 0 < ps.getD b 0 := by
            rcases hc.2 with g | g
            · omega
            · rw [i1] at g; exact g
          rcases i4 h (by omega) hb with rfl | g
          · exact .inr (.inl h5)
          · unfold lx at g; exact .inr (.inl (by omega))
    · rw [if_neg hc]
      rcases ih with ⟨i1, i2⟩ | ⟨b, i1, i2, i3, i4⟩
      · refine .inl ⟨i1, fun h hh => ?_⟩
        by_cases e : h = n
        · subst e
          cases hb : s.testBit h with
          | true => rfl
          | false => exact absurd ⟨hb, .inl (by omega)⟩ hc
        · exact i2 h (by omega)
      · refine .inr ⟨b, i1, by omega, i3, fun h hh hb => ?_⟩
        by_cases e : h = n
        · subst e
          refine .inr ?_
          have : ¬ ps.getD h 0 < ps.getD b 0 := fun g => hc ⟨hb, .inr (by rw [i1]; exact g)⟩
          unfold lx; omega
        · exact i4 h (by omega) hb
/-- the hours of the first n choices -/
def spS (ps : List Int) : Nat → Nat
  | 0 => 0
  | n + 1 => spS ps n ||| 2 ^ (bstTo ps (spS ps n) 6).toNat
def ordL (ps : List Int) : List Nat := (List.range 6).map fun n => (bstTo ps (spS ps n) 6).toNat
theorem ordL_at (ps : List Int) (n : Nat) (hn : n < 6) : (ordL ps).getD n 0 = (bstTo ps (spS ps n) 6).toNat := by
  unfold ordL
  rw [List.getD_eq_getElem?_getD, List.getElem?_map, List.getElem?_range hn]; rfl
theorem pre_sp (ps : List Int) (n : Nat) (hn : n ≤ 6) : pre (ordL ps) n = spS ps n := by
  induction n with
  | zero => rfl
  | succ n ih => unfold pre spS; rw [ih (by omega), ordL_at ps n (by omega)]
theorem spS_count (ps : List Int) (n : Nat) (hn : n ≤ 6) : bsum (fun _ => 1) (spS ps n) 6 = n ∧ (n < 6 → ∃ b : Nat, bstTo ps (spS ps n) 6 = b ∧ b < 6 ∧ (spS ps n).testBit b = false ∧ ∀ h, h < 6 → (spS ps n).testBit h = false → h = b ∨ lx ps b h) := by
  have free : ∀ s, bsum (fun _ => 1) s 6 < 6 → ∃ b : Nat, bstTo ps s 6 = b ∧ b < 6 ∧ s.testBit b = false ∧ ∀ h, h < 6 → s.testBit h = false → h = b ∨ lx ps b h := by
    intro s hs
    rcases bstTo_spec ps s 6 with ⟨_, g⟩ | g
    · exfalso
      simp only [bsum] at hs
      rw [g 0 (by omega), g 1 (by omega), g 2 (by omega), g 3 (by omega), g 4 (by omega), g 5 (by omega)] at hs
      simp [-List.getD_eq_getElem?_getD] at hs
    · exact g
  induction n with
  | zero => exact ⟨by simp [-List.getD_eq_getElem?_getD, bsum, spS], fun _ => free _ (by simp [-List.getD_eq_getElem?_getD, bsum, spS])⟩
  | succ n ih =>
    obtain ⟨i1, i2⟩ := ih (by omega)
    obtain ⟨b, b1, b2, b3, b4⟩ := i2 (by omega)
    have e : bsum (fun _ => 1) (spS ps (n + 1)) 6 = ((n + 1 : Nat) : Int) := by
      unfold spS
      rw [b1, show ((b : Nat) : Int).toNat = b from Int.toNat_natCast b, bsum_or _ _ _ _ b3, if_pos b2, i1]; omega
    exact ⟨e, fun h => free _ (by omega)⟩
theorem sp_pick (ps : List Int) (n : Nat) (hn : n < 6) : ∃ b : Nat, bstTo ps (spS ps n) 6 = b ∧ (ordL ps).getD n 0 = b ∧ b < 6 ∧ (spS ps n).testBit b = false ∧ ∀ h, h < 6 → (spS ps n).testBit h = false → h = b ∨ lx ps b h := by
  obtain ⟨b, b1, b2, b3, b4⟩ := (spS_count ps n (by omega)).2 hn
  exact ⟨b, b1, by rw [ordL_at ps n hn, b1]; rfl, b2, b3, b4⟩
theorem ordL_ord (ps : List Int) : Ord (ordL ps) := by
  have key : ∀ n m, n < m → m < 6 → (ordL ps).getD n 0 ≠ (ordL ps).getD m 0 := by
    intro n m hnm hm he
    obtain ⟨b, _, b2, _, b4, _⟩ := sp_pick ps m hm
    have := (pre_bit (ordL ps) m b).2 ⟨n, hnm, by rw [he, b2]⟩
    rw [pre_sp ps m (by omega), b4] at this
    cases this
  refine ⟨by simp [-List.getD_eq_getElem?_getD, ordL], fun n hn => ?_, fun n m hn hm he => ?_⟩
  · obtain ⟨b, _, b2, b3, _⟩ := sp_pick ps n hn; omega
  · rcases Nat.lt_trichotomy n m with g | g | g
    · exact absurd he (key n m g hm)
    · exact g
    · exact absurd he.symm (key m n g hn)
/-- the hours that come before h -/
def lbTo (ps : List Int) (h : Nat) : Nat → Nat
  | 0 => 0
  | j + 1 => if lx ps j h then lbTo ps h j ||| 2 ^ j else lbTo ps h j
def lbS (ps : List Int) (h : Nat) : Nat := lbTo ps h 6
theorem lbTo_bit (ps : List Int) (h n j : Nat) : (lbTo ps h n).testBit j = true ↔ j < n ∧ lx ps j h := by
  induction n with
  | zero => simp [-List.getD_eq_getElem?_getD, lbTo]
  | succ n ih =>
    unfold lbTo
    split
    · rename_i g
      rw [Nat.testBit_or, Bool.or_eq_true, ih, Nat.testBit_two_pow, decide_eq_true_iff]
      constructor
      · rintro (⟨a, b⟩ | rfl)
        · exact ⟨by omega, b⟩
        · exact ⟨by omega, g⟩
      · rintro ⟨a, b⟩
        by_cases e : n = j
        · exact .inr e
        · exact .inl ⟨by omega, b⟩
    · rename_i g
      rw [ih]
      constructor
      · rintro ⟨a, b⟩; exact ⟨by omega, b⟩
      · rintro ⟨a, b⟩
        by_cases e : j = n
        · subst e; exact absurd b g
        · exact ⟨by omega, b⟩
theorem bits_eq {s t : Nat} (hs : s < 64) (ht : t < 64) (h : ∀ j, j < 6 → (s.testBit j = true ↔ t.testBit j = true)) : s = t := by
  apply Nat.eq_of_testBit_eq
  intro j
  by_cases g : j < 6
  · rw [Bool.eq_iff_iff]; exact h j g
  · have hp : 64 ≤ 2 ^ j := Nat.pow_le_pow_right (n := 2) (by omega) (show 6 ≤ j by omega)
    rw [Nat.testBit_lt_two_pow (Nat.lt_of_lt_of_le hs hp), Nat.testBit_lt_two_pow (Nat.lt_of_lt_of_le ht hp)]
theorem lt64_of {s : Nat} (h : ∀ j, s.testBit j = true → j < 6) : s < 64 := by
  refine Nat.lt_of_not_le fun g => ?_
  obtain ⟨j, hj, hb⟩ := Nat.exists_ge_and_testBit_of_ge_two_pow (n := 6) g
  have := h j hb
  omega
theorem lbS_lt (ps : List Int) (h : Nat) : lbS ps h < 64 := lt64_of fun j hj => ((lbTo_bit ps h 6 j).1 hj).1
theorem spS_lt (ps : List Int) (n : Nat) (hn : n ≤ 6) : spS ps n < 64 := lt64_of fun j hj => by
  rw [← pre_sp ps n hn, pre_bit] at hj
  obtain ⟨m, h1, h2⟩ := hj
  have := (ordL_ord ps).lt m (by omega)
  omega
/-- the hours chosen before one are those that come before it -/
theorem sp_lb (ps : List Int) (n : Nat) (hn : n < 6) : spS ps n = lbS ps ((ordL ps).getD n 0) := by
  have low : ∀ n, n ≤ 6 → ∀ i j, i < 6 → (spS ps n).testBit j = true → lx ps i j → (spS ps n).testBit i = true := by
    intro n
    induction n with
    | zero => intro _ i j _ hj; simp [-List.getD_eq_getElem?_getD, spS] at hj
    | succ n ih =>
      intro hn i j hi hj hl
      obtain ⟨b, b1, _, b2, b3, b4⟩ := sp_pick ps n (by omega)
      have e : spS ps (n + 1) = spS ps n ||| 2 ^ b := by
        show spS ps n ||| 2 ^ (bstTo ps (spS ps n) 6).toNat = _
        rw [b1]; rfl
      rw [e, Nat.testBit_or, Bool.or_eq_true, Nat.testBit_two_pow, decide_eq_true_iff] at hj ⊢
      rcases hj with g | rfl
      · exact .inl (ih (by omega) i j hi g hl)
      · cases hb : (spS ps n).testBit i with
        | true => exact .inl rfl
        | false =>
          rcases b4 i hi hb with rfl | g
          · exact .inr rfl
          · unfold lx at g hl; omega
  obtain ⟨b, b1, b2, b3, b4, b5⟩ := sp_pick ps n hn
  rw [b2]
  refine bits_eq (spS_lt ps n (by omega)) (lbS_lt ps b) fun j hj => ?_
  unfold lbS
  rw [lbTo_bit]
  constructor
  · intro h
    refine ⟨hj, ?_⟩
    by_cases e : j = b
    · subst e; rw [b4] at h; cases h
    · refine Classical.byContradiction fun hn => ?_
      have := low n (by omega) b j b3 h (by unfold lx at hn ⊢; omega)
      rw [b4] at this; cases this
  · rintro ⟨_, h⟩
    cases hb : (spS ps n).testBit j with
    | true => rfl
    | false =>
      rcases b5 j hj hb with rfl | g
      · unfold lx at h; omega
      · unfold lx at g h; omega
/-- by how much the hour h makes the most greater -/
def clV (us : List Int) (rss : List (List Int)) (cs ps : List Int) (h : Nat) : Int := fV us rss cs (lbS ps h ||| 2 ^ h) - fV us rss cs (lbS ps h)
/-- the loads of the hours that s has -/
def clS (us : List Int) (rss : List (List Int)) (cs ps : List Int) (s : Nat) : List Int := (List.range 6).map fun h => if s.testBit h then clV us rss cs ps h else 0
theorem clS_len (us : List Int) (rss : List (List Int)) (cs ps : List Int) (s : Nat) : (clS us rss cs ps s).length = 6 := by simp [-List.getD_eq_getElem?_getD, clS]
theorem clS_set (us : List Int) (rss : List (List Int)) (cs ps : List Int) (s h : Nat) : (clS us rss cs ps s).set h (clV us rss cs ps h) = clS us rss cs ps (s ||| 2 ^ h) := by
  apply List.ext_getElem?
  intro j
  unfold clS
  rw [List.getElem?_set, List.getElem?_map, List.getElem?_map]
  by_cases hj : j < 6
  · rw [List.getElem?_range hj]
    simp only [Option.map_some, Nat.testBit_or, Nat.testBit_two_pow]
    by_cases e : h = j
    · subst e; simp [-List.getD_eq_getElem?_getD, hj]
    · have : decide (h = j) = false := by simpa using e
      simp [-List.getD_eq_getElem?_getD, e]
  · rw [List.getElem?_eq_none (by simp [-List.getD_eq_getElem?_getD]; omega)]
    split
    · rename_i e; subst e; simp [-List.getD_eq_getElem?_getD, hj]
    · rfl
theorem ld_cl (us : List Int) (rss : List (List Int)) (cs ps : List Int) (n : Nat) (hn : n ≤ 6) : ldTo us rss cs (ordL ps) n = clS us rss cs ps (spS ps n) := by
  induction n with
  | zero =>
    apply List.ext_getElem?
    intro j
    unfold clS
    simp only [ldTo, spS, Nat.zero_testBit]
    rw [List.getElem?_map]
    by_cases hj : j < 6
    · rw [List.getElem?_range hj, List.getElem?_replicate, if_pos hj]; rfl
    · rw [List.getElem?_eq_none (by simp [-List.getD_eq_getElem?_getD]; omega), List.getElem?_eq_none (by simp [-List.getD_eq_getElem?_getD]; omega)]; rfl
  | succ n ih =>
    obtain ⟨b, b1, b2, b3, b4, b5⟩ := sp_pick ps n (by omega)
    have e : spS ps (n + 1) = spS ps n ||| 2 ^ b := by
      show spS ps n ||| 2 ^ (bstTo ps (spS ps n) 6).toNat = _
      rw [b1]; rfl
    have l := sp_lb ps n (by omega)
    unfold ldTo
    rw [ih (by omega), pre_sp ps (n + 1) hn, pre_sp ps n (by omega), b2, e]
    rw [b2] at l
    have : fV us rss cs (spS ps n ||| 2 ^ b) - fV us rss cs (spS ps n) = clV us rss cs ps b := by unfold clV; rw [l]
    rw [this, clS_set]
theorem sp_all (ps : List Int) : spS ps 6 = 63 := by rw [← pre_sp ps 6 (Nat.le_refl _)]; exact (ordL_ord ps).all
/-- CheapLoads -/
def clL (us : List Int) (rss : List (List Int)) (cs ps : List Int) : List Int := clS us rss cs ps 63
theorem clL_eq (us : List Int) (rss : List (List Int)) (cs ps : List Int) : clL us rss cs ps = ldTo us rss cs (ordL ps) 6 := by
  unfold clL
  rw [ld_cl us rss cs ps 6 (Nat.le_refl _), sp_all]
theorem ord_sum (ps : List Int) (z : Nat → Int) (n : Nat) (hn : n < 6) : bsum z (pre (ordL ps) (n + 1)) 6 = bsum z (pre (ordL ps) n) 6 + z ((ordL ps).getD n 0) := by
  have ho := ordL_ord ps
  show bsum z (pre (ordL ps) n ||| 2 ^ (ordL ps).getD n 0) 6 = _
  rw [bsum_or _ _ _ _ (ho.fresh hn), if_pos (ho.lt n hn)]
theorem ord_price (ps : List Int) (n : Nat) (hn : n + 1 < 6) : ps.getD ((ordL ps).getD n 0) 0 ≤ ps.getD ((ordL ps).getD (n + 1) 0) 0 := by
  obtain ⟨b, b1, b2, b3, b4, b5⟩ := sp_pick ps n (by omega)
  obtain ⟨c, c1, c2, c3, c4, c5⟩ := sp_pick ps (n + 1) hn
  rw [b2, c2]
  have h : (spS ps n).testBit c = false := by
    cases hb : (spS ps n).testBit c with
    | false => rfl
    | true =>
      have e : spS ps (n + 1) = spS ps n ||| 2 ^ (bstTo ps (spS ps n) 6).toNat := rfl
      rw [e, Nat.testBit_or, hb] at c4; simp [-List.getD_eq_getElem?_getD] at c4
  rcases b5 c c3 h with rfl | g
  · exact Int.le_refl _
  · unfold lx at g; omega
/-- no loads of the most units cost less -/
theorem cl_least {us : List Int} {rss : List (List Int)} {cs ps ys : List Int} (hu : NN us) (hr : ∀ k, NN (rss.getD k [])) (hc : NN cs) (hp : NN ps) (hy : ∀ T, T < 64 → cFeed ys T 6 ≤ fV us rss cs T) (hall : cFeed ys 63 6 = fV us rss cs 63) :
    costTo (clL us rss cs ps) ps 6 ≤ costTo ys ps 6 := by
  have ho := ordL_ord ps
  obtain ⟨o, hoe⟩ : ∃ o, ordL ps = o := ⟨_, rfl⟩
  have os := ord_sum ps
  have op := ord_price ps
  rw [clL_eq, hoe]
  rw [hoe] at ho os op
  obtain ⟨x, hx⟩ : ∃ x, ldTo us rss cs o 6 = x := ⟨_, rfl⟩
  rw [hx]
  have X : ∀ n, n ≤ 6 → cFeed x (pre o n) 6 = fV us rss cs (pre o n) := by
    intro n hn
    have s := ld_sum (us := us) (rss := rss) ho hu hr hc n hn
    have key : ∀ m, n + m ≤ 6 → cFeed (ldTo us rss cs o (n + m)) (pre o n) 6 = cFeed (ldTo us rss cs o n) (pre o n) 6 := by
      intro m
      induction m with
      | zero => intro _; rfl
      | succ m ih =>
        intro hm
        have : (pre o n).testBit (o.getD (n + m) 0) = false := by
          cases h : (pre o n).testBit (o.getD (n + m) 0) with
          | false => rfl
          | true =>
            obtain ⟨q, h1, h2⟩ := (pre_bit o n _).1 h
            have := ho.inj q (n + m) (by omega) (by omega) h2
            omega
        show cFeed ((ldTo us rss cs o (n + m)).set (o.getD (n + m) 0) _) (pre o n) 6 = _
        rw [cFeed_set _ _ _ _ _ (by rw [ldTo_len]; exact ho.lt _ (by omega)), this, ih (by omega)]
        simp [-List.getD_eq_getElem?_getD]
    have k := key (6 - n) (by omega)
    rw [show n + (6 - n) = 6 by omega, hx] at k
    have z : ∀ m, cFeed (ldTo us rss cs o n) 63 m = cFeed (ldTo us rss cs o n) (pre o n) m + (cFeed (ldTo us rss cs o n) 63 m - cFeed (ldTo us rss cs o n) (pre o n) m) := fun m => by omega
    have zz : ∀ m, m ≤ 6 → cFeed (ldTo us rss cs o n) 63 m = cFeed (ldTo us rss cs o n) (pre o n) m := by
      intro m
      induction m with
      | zero => intro _; rfl
      | succ m ih =>
        intro hm
        have e : (63 : Nat).testBit m = true := by
          have : (63 : Nat).testBit m = decide (m < 6) := Nat.testBit_two_pow_sub_one 6 m
          rw [this, decide_eq_true (by omega)]
        unfold cFeed
        rw [ih (by omega), e]
        cases hb : (pre o n).testBit m with
        | true => rfl
        | false => rw [ld_fresh ho hn m hb]; rfl
    rw [k, ← zz 6 (Nat.le_refl _), s]
  have Y : ∀ n, n ≤ 6 → cFeed ys (pre o n) 6 ≤ fV us rss cs (pre o n) := fun n hn => by
    refine hy _ (lt64_of fun j hj => ?_)
    obtain ⟨m, h1, h2⟩ := (pre_bit o n j).1 hj
    have := ho.lt m (by omega)
    omega
  have main : ∀ n, n < 6 → 0 ≤ bsum (fun h => ys.getD h 0 * ps.getD h 0) (pre o (n + 1)) 6 - bsum (fun h => x.getD h 0 * ps.getD h 0) (pre o (n + 1)) 6 + ps.getD (o.getD n 0) 0 * (cFeed x (pre o (n + 1)) 6 - cFeed ys (pre o (n + 1)) 6) := by
    intro n
    induction n with
    | zero =>
      intro _
      have e1 := os (fun h => ys.getD h 0 * ps.getD h 0) 0 (by omega)
      have e2 := os (fun h => x.getD h 0 * ps.getD h 0) 0 (by omega)
      have e3 := os (fun h => ys.getD h 0) 0 (by omega)
      have e4 := os (fun h => x.getD h 0) 0 (by omega)
      rw [bsum_feed, bsum_feed] at e3 e4
      have z0 : ∀ (z : Nat → Int) m, bsum z (pre o 0) m = 0 := fun z m => by induction m with | zero => rfl | succ m ih => unfold bsum; rw [ih]; simp [-List.getD_eq_getElem?_getD, pre]
      have z1 : ∀ (l : List Int), cFeed l (pre o 0) 6 = 0 := fun l => by rw [← bsum_feed, z0]
      rw [z0] at e1 e2
      rw [z1] at e3 e4
      rw [e1, e2, e3, e4]
      have : ps.getD (o.getD 0 0) 0 * (0 + x.getD (o.getD 0 0) 0 - (0 + ys.getD (o.getD 0 0) 0)) = x.getD (o.getD 0 0) 0 * ps.getD (o.getD 0 0) 0 - ys.getD (o.getD 0 0) 0 * ps.getD (o.getD 0 0) 0 := by
        rw [Int.zero_add, Int.zero_add, Int.mul_comm, Int.sub_mul]
      omega
    | succ n ih =>
      intro hn
      have ih := ih (by omega)
      have e1 := os (fun h => ys.getD h 0 * ps.getD h 0) (n + 1) hn
      have e2 := os (fun h => x.getD h 0 * ps.getD h 0) (n + 1) hn
      have e3 := os (fun h => ys.getD h 0) (n + 1) hn
      have e4 := os (fun h => x.getD h 0) (n + 1) hn
      rw [bsum_feed, bsum_feed] at e3 e4
      have pr := op n hn
      have E : 0 ≤ cFeed x (pre o (n + 1)) 6 - cFeed ys (pre o (n + 1)) 6 := by
        have := X (n + 1) (by omega); have := Y (n + 1) (by omega); omega
      have mul := Int.mul_le_mul_of_nonneg_right pr E
      rw [e1, e2, e3, e4]
      have d : ps.getD (o.getD (n + 1) 0) 0 * (cFeed x (pre o (n + 1)) 6 + x.getD (o.getD (n + 1) 0) 0 - (cFeed ys (pre o (n + 1)) 6 + ys.getD (o.getD (n + 1) 0) 0)) = ps.getD (o.getD (n + 1) 0) 0 * (cFeed x (pre o (n + 1)) 6 - cFeed ys (pre o (n + 1)) 6) + x.getD (o.getD (n + 1) 0) 0 * ps.getD (o.getD (n + 1) 0) 0 - ys.getD (o.getD (n + 1) 0) 0 * ps.getD (o.getD (n + 1) 0) 0 := by
        rw [Int.mul_comm (x.getD (o.getD (n + 1) 0) 0), Int.mul_comm (ys.getD (o.getD (n + 1) 0) 0), ← Int.mul_add, ← Int.mul_sub]
        congr 1
        omega
      omega
  have m5 := main 5 (by omega)
  have x6 := X 6 (Nat.le_refl _)
  rw [ho.all] at x6 m5
  rw [x6, hall, Int.sub_self, Int.mul_zero, bsum_cost _ _ 6 (Nat.le_refl _), bsum_cost _ _ 6 (Nat.le_refl _)] at m5
  omega
/-- the loads of a plan -/
theorem Plan.set_le {us : List Int} {rss : List (List Int)} {cs : List Int} {p : List (List Int)} (h : Plan us rss cs p) (T : Nat) : setL p us.length T 6 ≤ fV us rss cs T := by
  refine lcV_ge fun s _ => ?_
  rw [fV_cut]
  -- the hours of T by those of s
  have hrow : ∀ n, n ≤ us.length → ∀ m, setL p n T m ≤ setL p n (s &&& T) m + cCars us rss s n + (setL p n T m - setL p n (s &&& T) m - cCars us rss s n) := fun n _ m => by omega
  have key : ∀ n, n ≤ us.length → setL p n T 6 ≤ setL p n (s &&& T) 6 + cCars us rss s n := by
    intro n
    induction n with
    | zero => intro _; have : ∀ t m, setL p 0 t m = 0 := (fun t m => by induction m with | zero => rfl | succ m ih => unfold setL; rw [ih]; simp [-List.getD_eq_getElem?_getD, loadL]); rw [this, this]; simp [-List.getD_eq_getElem?_getD, cCars]
    | succ n ih =>
      intro hn
      have ih := ih (by omega)
      have r := h.row n (by omega)
      have s6 := h.sum n (by omega)
      have k : ∀ m, (setL p (n + 1) T m - setL p n T m) ≤ (setL p (n + 1) (s &&& T) m - setL p n (s &&& T) m) + cRate (rss.getD n []) s m ∧ (setL p (n + 1) T m - setL p n T m) ≤ sumL (p.getD n []) m ∧ 0 ≤ setL p (n + 1) (s &&& T) m - setL p n (s &&& T) m := by
        intro m
        induction m with
        | zero => simp [-List.getD_eq_getElem?_getD, setL, cRate, sumL]
        | succ m ihm =>
          have a := r m
          have e : loadL p m (n + 1) = loadL p m n + (p.getD n []).getD m 0 := rfl
          unfold setL cRate sumL
          rw [e, Nat.testBit_and]
          cases s.testBit m <;> cases T.testBit m <;> simp [-List.getD_eq_getElem?_getD] <;> omega
      have k6 := k 6
      unfold cCars
      omega
  have key2 : ∀ m, m ≤ 6 → setL p us.length (s &&& T) m ≤ cFeed cs (s &&& T) m := by
    intro m
    induction m with
    | zero => intro _; exact Int.le_refl _
    | succ m ih =>
      intro hm
      have := ih (by omega)
      have := h.load m (by omega)
      unfold setL cFeed
      split <;> omega
  have a := key us.length (Nat.le_refl _)
  have b := key2 6 (Nat.le_refl _)
  omega
def loadsL (p : List (List Int)) (n : Nat) : List Int := (List.range 6).map fun h => loadL p h n
theorem loadsL_feed (p : List (List Int)) (n s m : Nat) (hm : m ≤ 6) : cFeed (loadsL p n) s m = setL p n s m := by
  induction m with
  | zero => rfl
  | succ m ih =>
    unfold cFeed setL
    rw [ih (by omega)]
    unfold loadsL
    rw [List.getD_eq_getElem?_getD, List.getElem?_map, List.getElem?_range (by omega)]
    rfl
theorem rstr_all (cs : List Int) (h : cs.length = 6) : rstr cs 63 = cs := by
  apply List.ext_getElem?
  intro j
  unfold rstr
  rw [List.getElem?_map]
  by_cases hj : j < 6
  · have e : (63 : Nat).testBit j = true := by
      have : (63 : Nat).testBit j = decide (j < 6) := Nat.testBit_two_pow_sub_one 6 j
      rw [this, decide_eq_true hj]
    rw [List.getElem?_range hj]
    rw [List.getElem?_eq_getElem (by omega)]
    simp only [Option.map_some, e, if_true]
    rw [List.getD_eq_getElem?_getD, List.getElem?_eq_getElem (by omega)]; rfl
  · rw [List.getElem?_eq_none (by simp [-List.getD_eq_getElem?_getD]; omega), List.getElem?_eq_none (by omega)]; rfl
/-- nobody charges as much for less -/
theorem Plan.cost_le {us : List Int} {rss : List (List Int)} {cs ps : List Int} {p : List (List Int)} (h : Plan us rss cs p) (hu : NN us) (hr : ∀ k, NN (rss.getD k [])) (hc : NN cs) (hp : NN ps) (hl : cs.length = 6) (hall : allL p us.length = lcV us rss cs) :
    costTo (clL us rss cs ps) ps 6 ≤ costTo (loadsL p us.length) ps 6 := by
  have e63 : fV us rss cs 63 = lcV us rss cs := by unfold fV; rw [rstr_all cs hl]
  refine cl_least hu hr hc hp (fun T _ => ?_) ?_
  · rw [loadsL_feed _ _ _ _ (Nat.le_refl _)]; exact h.set_le T
  · rw [loadsL_feed _ _ _ _ (Nat.le_refl _), ← load_all, hall, e63]
end Go.Proofs.YtoiaggjjfahabaaDoor
/- Plain: the hours by ascending prices, price by price and hour by hour. No program. -/
namespace Go.Proofs.YtoiaggjjfahabaaDoor
set_option linter.unusedVariables false
/-- of the first n hours those that are done before hour h of price p -/
def dnTo (ps : List Int) (p : Int) (h : Nat) : Nat → Nat
  | 0 => 0
  | j + 1 => if ps.getD j 0 < p ∨ (ps.getD j 0 = p ∧ j < h) then dnTo ps p h j ||| 2 ^ j else dnTo ps p h j
def dnS (ps : List Int) (p : Int) (h : Nat) : Nat := dnTo ps p h 6
theorem dnTo_bit (ps : List Int) (p : Int) (h n j : Nat) : (dnTo ps p h n).testBit j = true ↔ j < n ∧ (ps.getD j 0 < p ∨ (ps.getD j 0 = p ∧ j < h)) := by
  induction n with
  | zero => simp [-List.getD_eq_getElem?_getD, dnTo]
  | succ n ih =>
    unfold dnTo
    split
    · rename_i g
      rw [Nat.testBit_or, Bool.or_eq_true, ih, Nat.testBit_two_pow, decide_eq_true_iff]
      constructor
      · rintro (⟨a, b⟩ | rfl)
        · exact ⟨by omega, b⟩
        · exact ⟨by omega, g⟩
      · rintro ⟨a, b⟩
        by_cases e : n = j
        · exact .inr e
        · exact .inl ⟨by omega, b⟩
    · rename_i g
      rw [ih]
      constructor
      · rintro ⟨a, b⟩; exact ⟨by omega, b⟩
      · rintro ⟨a, b⟩
        by_cases e : j = n
        · subst e; exact absurd b g
        · exact ⟨by omega, b⟩
theorem dnS_bit (ps : List Int) (p : Int) (h j : Nat) : (dnS ps p h).testBit j = true ↔ j < 6 ∧ (ps.getD j 0 < p ∨ (ps.getD j 0 = p ∧ j < h)) := dnTo_bit ps p h 6 j
theorem dnS_lt (ps : List Int) (p : Int) (h : Nat) : dnS ps p h < 64 := lt64_of fun j hj => ((dnS_bit ps p h j).1 hj).1
theorem dnS_start {ps : List Int} (hp : ∀ k, 0 ≤ ps.getD k 0) : dnS ps 0 0 = 0 := by
  refine bits_eq (dnS_lt _ _ _) (by omega) fun j hj => ?_
  have := hp j
  rw [dnS_bit, Nat.zero_testBit]
  constructor
  · rintro ⟨_, a⟩; omega
  · intro a; cases a
theorem dnS_price (ps : List Int) (p : Int) : dnS ps p 6 = dnS ps (p + 1) 0 := by
  refine bits_eq (dnS_lt _ _ _) (dnS_lt _ _ _) fun j hj => ?_
  rw [dnS_bit, dnS_bit]
  constructor
  · rintro ⟨a, b⟩; exact ⟨a, by omega⟩
  · rintro ⟨a, b⟩; exact ⟨a, by omega⟩
theorem dnS_other {ps : List Int} {p : Int} {h : Nat} (hn : ps.getD h 0 ≠ p) : dnS ps p (h + 1) = dnS ps p h := by
  refine bits_eq (dnS_lt _ _ _) (dnS_lt _ _ _) fun j hj => ?_
  rw [dnS_bit, dnS_bit]
  by_cases e : j = h
  · subst e
    constructor
    · rintro ⟨a, b⟩; exact ⟨a, by omega⟩
    · rintro ⟨a, b⟩; exact ⟨a, by omega⟩
  · constructor
    · rintro ⟨a, b⟩; exact ⟨a, by omega⟩
    · rintro ⟨a, b⟩; exact ⟨a, by omega⟩
theorem dnS_this {ps : List Int} {p : Int} {h : Nat} (hh : h < 6) (he : ps.getD h 0 = p) : dnS ps p (h + 1) = dnS ps p h ||| 2 ^ h := by
  refine bits_eq (dnS_lt _ _ _) (or64 (dnS_lt _ _ _) (Nat.lt_of_lt_of_le (Nat.pow_lt_pow_right (by omega) hh) (Nat.le_refl _))) fun j hj => ?_
  rw [Nat.testBit_or, Bool.or_eq_true, dnS_bit, dnS_bit, Nat.testBit_two_pow, decide_eq_true_iff]
  by_cases e : j = h
  · subst e
    constructor
    · intro _; exact .inr rfl
    · intro _; exact ⟨hj, by omega⟩
  · constructor
    · rintro ⟨a, b⟩; exact .inl ⟨a, by omega⟩
    · rintro (⟨a, b⟩ | b)
      · exact ⟨a, by omega⟩
      · omega
theorem dnS_lb {ps : List Int} {p : Int} {h : Nat} (he : ps.getD h 0 = p) : dnS ps p h = lbS ps h := by
  refine bits_eq (dnS_lt _ _ _) (lbS_lt _ _) fun j hj => ?_
  rw [dnS_bit, show (lbS ps h).testBit j = (lbTo ps h 6).testBit j from rfl, lbTo_bit]
  unfold lx
  rw [he]
theorem dnS_end {ps : List Int} (hp : ∀ k, ps.getD k 0 ≤ 30) : dnS ps 31 0 = 63 := by
  refine bits_eq (dnS_lt _ _ _) (by omega) fun j hj => ?_
  have := hp j
  have e : (63 : Nat).testBit j = true := by
    have : (63 : Nat).testBit j = decide (j < 6) := Nat.testBit_two_pow_sub_one 6 j
    rw [this, decide_eq_true hj]
  rw [dnS_bit, e]
  constructor
  · intro _; rfl
  · intro _; exact ⟨hj, by omega⟩
theorem rstr_set (cs : List Int) (s h : Nat) : (rstr cs s).set h (cs.getD h 0) = rstr cs (s ||| 2 ^ h) := by
  apply List.ext_getElem?
  intro j
  unfold rstr
  rw [List.getElem?_set, List.getElem?_map, List.getElem?_map]
  by_cases hj : j < 6
  · rw [List.getElem?_range hj]
    simp only [Option.map_some, Nat.testBit_or, Nat.testBit_two_pow]
    by_cases e : h = j
    · subst e; simp [-List.getD_eq_getElem?_getD, hj]
    · have : decide (h = j) = false := by simpa using e
      simp [-List.getD_eq_getElem?_getD, e]
  · rw [List.getElem?_eq_none (by simp [-List.getD_eq_getElem?_getD]; omega)]
    split
    · rename_i e; subst e; simp [-List.getD_eq_getElem?_getD, hj]
    · rfl
/-- the hour's load, as the program reckons it -/
theorem cl_next {us : List Int} {rss : List (List Int)} {cs ps : List Int} {p : Int} {h : Nat} (hh : h < 6) (he : ps.getD h 0 = p) :
    (clS us rss cs ps (dnS ps p h)).set h (fV us rss cs (dnS ps p (h + 1)) - fV us rss cs (dnS ps p h)) = clS us rss cs ps (dnS ps p (h + 1)) := by
  have e : clV us rss cs ps h = fV us rss cs (dnS ps p h ||| 2 ^ h) - fV us rss cs (dnS ps p h) := by unfold clV; rw [dnS_lb he]
  rw [dnS_this hh he, ← e, clS_set]
end Go.Proofs.YtoiaggjjfahabaaDoor
