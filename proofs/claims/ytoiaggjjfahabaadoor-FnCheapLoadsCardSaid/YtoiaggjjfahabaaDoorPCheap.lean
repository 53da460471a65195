/- Plain: the cheapest loads: the least hours first; no plan of the most units costs less. No program. -/
import Derived.Test.YtoiaggjjfahabaaDoorPPlan
namespace Go.Proofs.YtoiaggjjfahabaaDoor
set_option linter.unusedVariables false
/-- the feed of the hours that t has, and nothing else -/
def rstr (cs : List Int) (t : Nat) : List Int := (List.range 6).map fun h => if t.testBit h then cs.getD h 0 else 0
theorem rstr_at (cs : List Int) (t h : Nat) : (rstr cs t).getD h 0 = if h < 6 ∧ t.testBit h = true then cs.getD h 0 else 0 := by
  unfold rstr
  rw [List.getD_eq_getElem?_getD, List.getElem?_map]
  by_cases g : h < 6
  · rw [List.getElem?_range g]
    cases hb : t.testBit h <;> simp [-List.getD_eq_getElem?_getD, g, hb]
  · rw [List.getElem?_eq_none (by simp [-List.getD_eq_getElem?_getD]; omega)]
    simp [-List.getD_eq_getElem?_getD, g]
theorem rstr_len (cs : List Int) (t : Nat) : (rstr cs t).length = 6 := by simp [-List.getD_eq_getElem?_getD, rstr]
theorem rstr_nn {cs : List Int} (h : NN cs) (t : Nat) : NN (rstr cs t) := fun k => by
  rw [rstr_at]; split
  · exact h k
  · exact Int.le_refl _
theorem rstr_feed (cs : List Int) (t s n : Nat) (hn : n ≤ 6) : cFeed (rstr cs t) s n = cFeed cs (s &&& t) n := by
  induction n with
  | zero => rfl
  | succ n ih =>
    unfold cFeed
    rw [ih (by omega), rstr_at, Nat.testBit_and]
    cases s.testBit n <;> cases t.testBit n <;> simp [-List.getD_eq_getElem?_getD] <;> omega
/-- the most with the hours of t alone -/
def fV (us : List Int) (rss : List (List Int)) (cs : List Int) (t : Nat) : Int := lcV us rss (rstr cs t)
theorem fV_cut (us : List Int) (rss : List (List Int)) (cs : List Int) (t s : Nat) : cutV us rss (rstr cs t) s = cFeed cs (s &&& t) 6 + cCars us rss s us.length := by
  unfold cutV; rw [rstr_feed cs t s 6 (Nat.le_refl _)]
section
variable {us : List Int} {rss : List (List Int)} {cs : List Int}
theorem fV_nn (hu : NN us) (hr : ∀ k, NN (rss.getD k [])) (hc : NN cs) (t : Nat) : 0 ≤ fV us rss cs t := lcV_ge fun s _ => cutV_nn us rss _ hu hr (rstr_nn hc t) s
theorem cRate_all (rs : List Int) (hr : ∀ k, 6 ≤ k → rs.getD k 0 = 0) : cRate rs 63 6 = 0 := by
  simp [-List.getD_eq_getElem?_getD, cRate, show (63 : Nat).testBit 0 = true from rfl, show (63 : Nat).testBit 1 = true from rfl, show (63 : Nat).testBit 2 = true from rfl, show (63 : Nat).testBit 3 = true from rfl, show (63 : Nat).testBit 4 = true from rfl, show (63 : Nat).testBit 5 = true from rfl]
theorem cRate63 (rs : List Int) : cRate rs 63 6 = 0 := by
  simp [-List.getD_eq_getElem?_getD, cRate, show (63 : Nat).testBit 0 = true from rfl, show (63 : Nat).testBit 1 = true from rfl, show (63 : Nat).testBit 2 = true from rfl, show (63 : Nat).testBit 3 = true from rfl, show (63 : Nat).testBit 4 = true from rfl, show (63 : Nat).testBit 5 = true from rfl]
theorem cCars63 (hu : NN us) (n : Nat) : cCars us rss 63 n = 0 := by
  induction n with
  | zero => rfl
  | succ n ih => have := hu n; unfold cCars; rw [ih, cRate63]; omega
theorem fV_zero (hu : NN us) (hr : ∀ k, NN (rss.getD k [])) (hc : NN cs) : fV us rss cs 0 = 0 := by
  have h1 := fV_nn hu hr hc 0
  have h2 := lcV_le us rss (rstr cs 0) 63 (by omega)
  rw [fV_cut, cCars63 hu, Nat.and_zero] at h2
  have key : ∀ n, cFeed cs 0 n = 0 := fun n => by induction n with | zero => rfl | succ n ih => unfold cFeed; rw [ih]; simp [-List.getD_eq_getElem?_getD]
  rw [key] at h2
  unfold fV at h1 ⊢
  omega
/-- an hour more is worth no less, and no more the more hours there are already -/
theorem fV_sub (hr : ∀ k, NN (rss.getD k [])) (hc : NN cs) (a b : Nat) : fV us rss cs (a ||| b) + fV us rss cs (a &&& b) ≤ fV us rss cs a + fV us rss cs b := by
  obtain ⟨s, hs, es⟩ := lcV_at us rss (rstr cs a)
  obtain ⟨t, ht, et⟩ := lcV_at us rss (rstr cs b)
  have l1 := lcV_le us rss (rstr cs (a ||| b)) (s &&& t) (and64 hs)
  have l2 := lcV_le us rss (rstr cs (a &&& b)) (s ||| t) (or64 hs ht)
  rw [fV_cut] at es et l1 l2
  have m2 := cCars_sub us rss hr s t us.length
  have key : ∀ n, cFeed cs ((s &&& t) &&& (a ||| b)) n + cFeed cs ((s ||| t) &&& (a &&& b)) n ≤ cFeed cs (s &&& a) n + cFeed cs (t &&& b) n := by
    intro n
    induction n with
    | zero => exact Int.le_refl _
    | succ n ih =>
      have := hc n
      unfold cFeed
      simp only [Nat.testBit_or, Nat.testBit_and]
      cases s.testBit n <;> cases t.testBit n <;> cases a.testBit n <;> cases b.testBit n <;> simp [-List.getD_eq_getElem?_getD] <;> omega
  have := key 6
  unfold fV
  omega
theorem fV_mono (hc : NN cs) (a b : Nat) (h : ∀ j, a.testBit j = true → b.testBit j = true) : fV us rss cs a ≤ fV us rss cs b := by
  obtain ⟨t, ht, et⟩ := lcV_at us rss (rstr cs b)
  have l1 := lcV_le us rss (rstr cs a) t ht
  rw [fV_cut] at et l1
  have key : ∀ n, cFeed cs (t &&& a) n ≤ cFeed cs (t &&& b) n := by
    intro n
    induction n with
    | zero => exact Int.le_refl _
    | succ n ih =>
      have := hc n
      have g := h n
      unfold cFeed
      simp only [Nat.testBit_and]
      cases e : a.testBit n
      · cases t.testBit n <;> cases b.testBit n <;> simp [-List.getD_eq_getElem?_getD] <;> omega
      · rw [g e]; cases t.testBit n <;> simp [-List.getD_eq_getElem?_getD] <;> omega
  have := key 6
  unfold fV
  omega
theorem fV_step (a h : Nat) (hh : h < 6) (hb : a.testBit h = false) : fV us rss cs (a ||| 2 ^ h) ≤ fV us rss cs a + max (cs.getD h 0) 0 := by
  obtain ⟨t, ht, et⟩ := lcV_at us rss (rstr cs a)
  have l1 := lcV_le us rss (rstr cs (a ||| 2 ^ h)) t ht
  rw [fV_cut] at et l1
  have key : ∀ n, cFeed cs (t &&& (a ||| 2 ^ h)) n ≤ cFeed cs (t &&& a) n + if h < n then max (cs.getD h 0) 0 else 0 := by
    intro n
    induction n with
    | zero => simp [-List.getD_eq_getElem?_getD, cFeed]
    | succ n ih =>
      unfold cFeed
      simp only [Nat.testBit_and, Nat.testBit_or, Nat.testBit_two_pow]
      by_cases e : h = n
      · subst e
        rw [hb]
        rw [if_neg (Nat.lt_irrefl h)] at ih
        rw [if_pos (Nat.lt_succ_self h)]
        cases t.testBit h <;> simp [-List.getD_eq_getElem?_getD] <;> omega
      · have e2 : decide (h = n) = false := by simpa using e
        rw [e2, Bool.or_false]
        by_cases g : h < n
        · rw [if_pos g] at ih; rw [if_pos (show h < n + 1 by omega)]; split <;> omega
        · rw [if_neg g] at ih; rw [if_neg (show ¬ h < n + 1 by omega)]; split <;> omega
  have := key 6
  rw [if_pos hh] at this
  unfold fV
  omega
end
/-- the hours in an order: the sets of the first ones -/
def pre (o : List Nat) : Nat → Nat
  | 0 => 0
  | n + 1 => pre o n ||| 2 ^ o.getD n 0
/-- the loads of the first n hours of an order -/
def ldTo (us : List Int) (rss : List (List Int)) (cs : List Int) (o : List Nat) : Nat → List Int
  | 0 => List.replicate 6 0
  | n + 1 => (ldTo us rss cs o n).set (o.getD n 0) (fV us rss cs (pre o (n + 1)) - fV us rss cs (pre o n))
/-- the order names every hour once -/
structure Ord (o : List Nat) : Prop where
  len : o.length = 6
  lt : ∀ n, n < 6 → o.getD n 0 < 6
  inj : ∀ n m, n < 6 → m < 6 → o.getD n 0 = o.getD m 0 → n = m
theorem pre_bit (o : List Nat) (n j : Nat) : (pre o n).testBit j = true ↔ ∃ m, m < n ∧ o.getD m 0 = j := by
  induction n with
  | zero => simp [-List.getD_eq_getElem?_getD, pre]
  | succ n ih =>
    unfold pre
    rw [Nat.testBit_or, Bool.or_eq_true, ih, Nat.testBit_two_pow, decide_eq_true_iff]
    constructor
    · rintro (⟨m, h1, h2⟩ | h)
      · exact ⟨m, by omega, h2⟩
      · exact ⟨n, by omega, h⟩
    · rintro ⟨m, h1, h2⟩
      by_cases e : m = n
      · subst e; exact .inr h2
      · exact .inl ⟨m, by omega, h2⟩
theorem Ord.fresh {o : List Nat} (ho : Ord o) {n : Nat} (hn : n < 6) : (pre o n).testBit (o.getD n 0) = false := by
  cases h : (pre o n).testBit (o.getD n 0) with
  | false => rfl
  | true =>
    obtain ⟨m, h1, h2⟩ := (pre_bit o n _).1 h
    have := ho.inj m n (by omega) hn h2
    omega
theorem ldTo_len (us : List Int) (rss : List (List Int)) (cs : List Int) (o : List Nat) (n : Nat) : (ldTo us rss cs o n).length = 6 := by
  induction n with
  | zero => simp [-List.getD_eq_getElem?_getD, ldTo]
  | succ n ih => simp [-List.getD_eq_getElem?_getD, ldTo, ih]
section
variable {us : List Int} {rss : List (List Int)} {cs : List Int} {o : List Nat}
theorem ld_fresh (ho : Ord o) {n : Nat} (hn : n ≤ 6) (j : Nat) (hj : (pre o n).testBit j = false) : (ldTo us rss cs o n).getD j 0 = 0 := by
  induction n with
  | zero => show (List.replicate 6 (0 : Int)).getD j 0 = 0; rw [List.getD_eq_getElem?_getD, List.getElem?_replicate]; split <;> rfl
  | succ n ih =>
    unfold pre at hj
    rw [Nat.testBit_or, Bool.or_eq_false_iff, Nat.testBit_two_pow, decide_eq_false_iff_not] at hj
    unfold ldTo
    rw [getD_set, if_neg (fun g => hj.2 g.1)]
    exact ih (by omega) hj.1
/-- the loads of a set are at most what can be given in its hours -/
theorem ld_le (ho : Ord o) (hu : NN us) (hr : ∀ k, NN (rss.getD k [])) (hc : NN cs) (T : Nat) (n : Nat) (hn : n ≤ 6) : cFeed (ldTo us rss cs o n) T 6 ≤ fV us rss cs (pre o n &&& T) ∧ ∀ j, 0 ≤ (ldTo us rss cs o n).getD j 0 ∧ (ldTo us rss cs o n).getD j 0 ≤ cs.getD j 0 := by
  induction n with
  | zero =>
    have key : ∀ m, cFeed (ldTo us rss cs o 0) T m = 0 := by
      intro m
      induction m with
      | zero => rfl
      | succ m ih => unfold cFeed; rw [ih]; have := ld_fresh (us := us) (rss := rss) (cs := cs) ho (Nat.zero_le 6) m (by simp [-List.getD_eq_getElem?_getD, pre]); rw [this]; simp [-List.getD_eq_getElem?_getD]
    rw [key]
    refine ⟨fV_nn hu hr hc _, fun j => ?_⟩
    rw [ld_fresh ho (Nat.zero_le 6) j (by simp [-List.getD_eq_getElem?_getD, pre])]
    exact ⟨Int.le_refl _, hc j⟩
  | succ n ih =>
    obtain ⟨i1, i2⟩ := ih (by omega)
    have fr := ho.fresh (show n < 6 by omega)
    have h6 := ho.lt n (by omega)
    have z := ld_fresh (us := us) (rss := rss) (cs := cs) ho (show n ≤ 6 by omega) _ fr
    have hl := ldTo_len us rss cs o n
    have hst := fV_step (us := us) (rss := rss) (cs := cs) (pre o n) (o.getD n 0) h6 fr
    have hc0 := hc (o.getD n 0)
    have hmo := fV_mono (us := us) (rss := rss) hc (pre o n) (pre o (n + 1)) fun j hj => by unfold pre; rw [Nat.testBit_or, hj, Bool.true_or]
    refine ⟨?_, fun j => ?_⟩
    · unfold ldTo
      rw [cFeed_set _ _ _ _ _ (by omega), z]
      by_cases hT : T.testBit (o.getD n 0) = true
      · rw [if_pos ⟨h6, hT⟩]
        have hs := fV_sub (us := us) (rss := rss) hr hc (pre o n) (pre o (n + 1) &&& T)
        have e1 : pre o n ||| (pre o (n + 1) &&& T) = pre o (n + 1) := by
          apply Nat.eq_of_testBit_eq
          intro j
          have e : pre o (n + 1) = pre o n ||| 2 ^ o.getD n 0 := rfl
          rw [e, Nat.testBit_or, Nat.testBit_and, Nat.testBit_or, Nat.testBit_two_pow]
          by_cases g : o.getD n 0 = j
          · subst g; rw [hT]; simp [-List.getD_eq_getElem?_getD]
          · have : decide (o.getD n 0 = j) = false := by simpa using g
            rw [this]; cases (pre o n).testBit j <;> simp [-List.getD_eq_getElem?_getD]
        have e2 : pre o n &&& (pre o (n + 1) &&& T) = pre o n &&& T := by
          apply Nat.eq_of_testBit_eq
          intro j
          have e : pre o (n + 1) = pre o n ||| 2 ^ o.getD n 0 := rfl
          rw [e, Nat.testBit_and, Nat.testBit_and, Nat.testBit_or, Nat.testBit_and]
          cases (pre o n).testBit j <;> simp [-List.getD_eq_getElem?_getD]
        rw [e1, e2] at hs
        omega
      · rw [if_neg (fun g => hT g.2)]
        have e2 : pre o (n + 1) &&& T = pre o n &&& T := by
          apply Nat.eq_of_testBit_eq
          intro j
          have e : pre o (n + 1) = pre o n ||| 2 ^ o.getD n 0 := rfl
          rw [e, Nat.testBit_and, Nat.testBit_or, Nat.testBit_and, Nat.testBit_two_pow]
          by_cases g : o.getD n 0 = j
          · subst g
            have : T.testBit (o.getD n 0) = false := by simpa using hT
            rw [this]; simp [-List.getD_eq_getElem?_getD]
          · have : decide (o.getD n 0 = j) = false := by simpa using g
            rw [this]; simp [-List.getD_eq_getElem?_getD]
        rw [e2]; omega
    · unfold ldTo
      rw [getD_set]
      split
      · rename_i g
        obtain ⟨rfl, _⟩ := g
        have e : pre o (n + 1) = pre o n ||| 2 ^ o.getD n 0 := rfl
        rw [e] at hmo ⊢
        omega
      · exact i2 j
/-- the sum over the hours below n that s has -/
def bsum (z : Nat → Int) (s : Nat) : Nat → Int
  | 0 => 0
  | h + 1 => bsum z s h + if s.testBit h then z h else 0
theorem bsum_or (z : Nat → Int) (s h n : Nat) (hb : s.testBit h = false) : bsum z (s ||| 2 ^ h) n = bsum z s n + if h < n then z h else 0 := by
  induction n with
  | zero => simp [-List.getD_eq_getElem?_getD, bsum]
  | succ n ih =>
    unfold bsum
    rw [ih, Nat.testBit_or, Nat.testBit_two_pow]
    by_cases e : h = n
    · subst e; rw [hb]; simp [-List.getD_eq_getElem?_getD]
    · have e2 : decide (h = n) = false := by simpa using e
      rw [e2, Bool.or_false]
      by_cases g : h < n
      · rw [if_pos g, if_pos (show h < n + 1 by omega)]; omega
      · rw [if_neg g, if_neg (show ¬ h < n + 1 by omega)]; omega
/-- all hours -/
theorem Ord.all (ho : Ord o) : pre o 6 = 63 := by
  apply Nat.eq_of_testBit_eq
  intro j
  have h63 : (63 : Nat).testBit j = decide (j < 6) := Nat.testBit_two_pow_sub_one 6 j
  rw [h63]
  by_cases hj : j < 6
  · rw [decide_eq_true hj, pre_bit]
    rw [← pre_bit]
    have cnt : ∀ n, n ≤ 6 → bsum (fun _ => 1) (pre o n) 6 = n := by
      intro n
      induction n with
      | zero => intro _; simp [bsum, pre]
      | succ n ih =>
        intro hn
        show bsum (fun _ => 1) (pre o n ||| 2 ^ o.getD n 0) 6 = _
        rw [bsum_or _ _ _ _ (ho.fresh (by omega)), if_pos (ho.lt n (by omega)), ih (by omega)]; omega
    have c6 := cnt 6 (Nat.le_refl _)
    cases hb : (pre o 6).testBit j with
    | true => rfl
    | false =>
      have key : ∀ n, bsum (fun _ => 1) (pre o 6) n ≤ (n : Int) - if j < n then 1 else 0 := by
        intro n
        induction n with
        | zero => simp [bsum]
        | succ n ih =>
          unfold bsum
          by_cases e : j = n
          · subst e
            rw [hb]
            rw [if_neg (Nat.lt_irrefl j)] at ih
            rw [if_pos (Nat.lt_succ_self j)]
            simp; omega
          · by_cases g : j < n
            · rw [if_pos g] at ih; rw [if_pos (show j < n + 1 by omega)]; split <;> omega
            · rw [if_neg g] at ih; rw [if_neg (show ¬ j < n + 1 by omega)]; split <;> omega
      have := key 6
      rw [if_pos hj] at this
      omega
  · rw [decide_eq_false hj]
    cases h : (pre o 6).testBit j with
    | false => rfl
    | true =>
      obtain ⟨m, h1, h2⟩ := (pre_bit o 6 _).1 h
      have := ho.lt m h1
      omega
/-- the sum of the loads -/
theorem ld_sum (ho : Ord o) (hu : NN us) (hr : ∀ k, NN (rss.getD k [])) (hc : NN cs) (n : Nat) (hn : n ≤ 6) : cFeed (ldTo us rss cs o n) 63 6 = fV us rss cs (pre o n) := by
  induction n with
  | zero =>
    have := (ld_le (us := us) (rss := rss) ho hu hr hc 63 0 (by omega)).1
    have h0 := fV_zero hu hr hc
    have g := cFeed_nn (ldTo us rss cs o 0) (fun j => ((ld_le (us := us) (rss := rss) ho hu hr hc 63 0 (by omega)).2 j).1) 63 6
    simp only [pre, Nat.zero_and] at this ⊢
    omega
  | succ n ih =>
    have fr := ho.fresh (show n < 6 by omega)
    have h6 := ho.lt n (by omega)
    have z := ld_fresh (us := us) (rss := rss) (cs := cs) ho (show n ≤ 6 by omega) _ fr
    have hl := ldTo_len us rss cs o n
    have hb : (63 : Nat).testBit (o.getD n 0) = true := by
      have : (63 : Nat).testBit (o.getD n 0) = decide (o.getD n 0 < 6) := Nat.testBit_two_pow_sub_one 6 _
      rw [this, decide_eq_true h6]
    unfold ldTo
    rw [cFeed_set _ _ _ _ _ (by omega), z, if_pos ⟨h6, hb⟩, ih (by omega)]
    omega
/-- with the loads themselves as the feed as much can be given -/
theorem ld_most (ho : Ord o) (hu : NN us) (hr : ∀ k, NN (rss.getD k [])) (hc : NN cs) : lcV us rss (ldTo us rss cs o 6) = fV us rss cs 63 := by
  have hs := ld_sum (us := us) (rss := rss) ho hu hr hc 6 (Nat.le_refl _)
  rw [ho.all] at hs
  have h1 := lcV_le us rss (ldTo us rss cs o 6) 63 (by omega)
  unfold cutV at h1
  rw [cCars63 hu, hs] at h1
  have h2 : fV us rss cs 63 ≤ lcV us rss (ldTo us rss cs o 6) := by
    refine lcV_ge fun s hsl => ?_
    have l := (ld_le (us := us) (rss := rss) ho hu hr hc (63 ^^^ s) 6 (Nat.le_refl _)).1
    rw [ho.all] at l
    have hx : 63 &&& (63 ^^^ s) = 63 ^^^ s := by
      apply Nat.eq_of_testBit_eq
      intro j
      have e : (63 : Nat).testBit j = decide (j < 6) := Nat.testBit_two_pow_sub_one 6 j
      rw [Nat.testBit_and, Nat.testBit_xor, e]
      by_cases g : j < 6
      · simp [-List.getD_eq_getElem?_getD, g]
      · have : s.testBit j = false := Nat.testBit_lt_two_pow (Nat.lt_of_lt_of_le hsl (Nat.pow_le_pow_right (n := 2) (by omega) (show 6 ≤ j by omega)))
        simp [-List.getD_eq_getElem?_getD, g, this]
    rw [hx] at l
    have m := lcV_le us rss (rstr cs (63 ^^^ s)) s hsl
    rw [fV_cut] at m
    have z : s &&& (63 ^^^ s) = 0 := by
      apply Nat.eq_of_testBit_eq
      intro j
      have e : (63 : Nat).testBit j = decide (j < 6) := Nat.testBit_two_pow_sub_one 6 j
      rw [Nat.testBit_and, Nat.testBit_xor, e, Nat.zero_testBit]
      by_cases g : j < 6
      · cases s.testBit j <;> simp [-List.getD_eq_getElem?_getD, g]
      · have : s.testBit j = false := Nat.testBit_lt_two_pow (Nat.lt_of_lt_of_le hsl (Nat.pow_le_pow_right (n := 2) (by omega) (show 6 ≤ j by omega)))
        simp [-List.getD_eq_getElem?_getD, g, this]
    have key : ∀ n, cFeed cs 0 n = 0 := fun n => by induction n with | zero => rfl | succ n ih => unfold cFeed; rw [ih]; simp [-List.getD_eq_getElem?_getD]
    rw [z, key] at m
    have sp : ∀ n, n ≤ 6 → cFeed (ldTo us rss cs o 6) 63 n = cFeed (ldTo us rss cs o 6) s n + cFeed (ldTo us rss cs o 6) (63 ^^^ s) n := by
      intro n
      induction n with
      | zero => intro _; rfl
      | succ n ih =>
        intro hn
        have e : (63 : Nat).testBit n = true := by
          have : (63 : Nat).testBit n = decide (n < 6) := Nat.testBit_two_pow_sub_one 6 n
          rw [this, decide_eq_true (by omega)]
        unfold cFeed
        rw [ih (by omega), Nat.testBit_xor, e]
        cases s.testBit n <;> simp [-List.getD_eq_getElem?_getD] <;> omega
    have := sp 6 (Nat.le_refl _)
    unfold cutV
    unfold fV at l hs ⊢
    omega
  omega
end
/-- what loads cost -/
def costTo (ls ps : List Int) : Nat → Int
  | 0 => 0
  | h + 1 => costTo ls ps h + ls.getD h 0 * ps.getD h 0
end Go.Proofs.YtoiaggjjfahabaaDoor
