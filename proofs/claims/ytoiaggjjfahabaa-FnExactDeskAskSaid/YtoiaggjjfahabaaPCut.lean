/- Plain: cuts of a charging plan: what a set of hours lets through, the least of all sets; one step of the first plan of the most units. No program. -/
import Derived.Test.YtoiaggjjfahabaaBase
namespace Go.Proofs.Ytoiaggjjfahabaa
set_option linter.unusedVariables false
/-- the feed of the hours below n that s has -/
def cFeed (cs : List Int) (s : Nat) : Nat → Int
  | 0 => 0
  | h + 1 => cFeed cs s h + if s.testBit h then cs.getD h 0 else 0
/-- the rates of the hours below n that s has not -/
def cRate (rs : List Int) (s : Nat) : Nat → Int
  | 0 => 0
  | h + 1 => cRate rs s h + if s.testBit h then 0 else rs.getD h 0
/-- what the first i cars let through -/
def cCars (us : List Int) (rss : List (List Int)) (s : Nat) : Nat → Int
  | 0 => 0
  | i + 1 => cCars us rss s i + min (us.getD i 0) (cRate (rss.getD i []) s 6)
def cutV (us : List Int) (rss : List (List Int)) (cs : List Int) (s : Nat) : Int := cFeed cs s 6 + cCars us rss s us.length
/-- the least of the sets up to s -/
def leastTo (us : List Int) (rss : List (List Int)) (cs : List Int) : Nat → Int
  | 0 => cutV us rss cs 0
  | s + 1 => min (leastTo us rss cs s) (cutV us rss cs (s + 1))
def lastSet : Nat := 63
def lcV (us : List Int) (rss : List (List Int)) (cs : List Int) : Int := leastTo us rss cs lastSet
theorem leastTo_spec (us : List Int) (rss : List (List Int)) (cs : List Int) (S : Nat) : (∀ s, s ≤ S → leastTo us rss cs S ≤ cutV us rss cs s) ∧ ∃ s, s ≤ S ∧ leastTo us rss cs S = cutV us rss cs s := by
  induction S with
  | zero => exact ⟨fun s hs => by rw [show s = 0 by omega]; exact Int.le_refl _, 0, Nat.le_refl _, rfl⟩
  | succ S ih =>
    unfold leastTo
    refine ⟨fun s hs => ?_, ?_⟩
    · by_cases e : s = S + 1
      · subst e; omega
      · have := ih.1 s (by omega); omega
    · obtain ⟨s, h1, h2⟩ := ih.2
      rcases Int.le_total (leastTo us rss cs S) (cutV us rss cs (S + 1)) with g | g
      · rw [Int.min_eq_left g]; exact ⟨s, by omega, h2⟩
      · rw [Int.min_eq_right g]; exact ⟨S + 1, Nat.le_refl _, rfl⟩
theorem lcV_le (us : List Int) (rss : List (List Int)) (cs : List Int) (s : Nat) (hs : s < 64) : lcV us rss cs ≤ cutV us rss cs s := (leastTo_spec us rss cs lastSet).1 s (by unfold lastSet; omega)
theorem lcV_at (us : List Int) (rss : List (List Int)) (cs : List Int) : ∃ s, s < 64 ∧ lcV us rss cs = cutV us rss cs s := by
  obtain ⟨s, h1, h2⟩ := (leastTo_spec us rss cs lastSet).2
  exact ⟨s, by unfold lastSet at h1; omega, h2⟩
theorem lcV_ge {us : List Int} {rss : List (List Int)} {cs : List Int} {m : Int} (h : ∀ s, s < 64 → m ≤ cutV us rss cs s) : m ≤ lcV us rss cs := by
  obtain ⟨s, h1, h2⟩ := lcV_at us rss cs
  rw [h2]; exact h s h1
theorem or64 {s t : Nat} (hs : s < 64) (ht : t < 64) : s ||| t < 64 := Nat.or_lt_two_pow (n := 6) hs ht
theorem and64 {s t : Nat} (hs : s < 64) : s &&& t < 64 := Nat.lt_of_le_of_lt Nat.and_le_left hs
theorem cFeed_mod (cs : List Int) (s t n : Nat) : cFeed cs (s ||| t) n + cFeed cs (s &&& t) n = cFeed cs s n + cFeed cs t n := by
  induction n with
  | zero => rfl
  | succ n ih =>
    unfold cFeed
    rw [Nat.testBit_or, Nat.testBit_and]
    cases s.testBit n <;> cases t.testBit n <;> simp [-List.getD_eq_getElem?_getD] <;> omega
theorem cRate_mod (rs : List Int) (s t n : Nat) : cRate rs (s ||| t) n + cRate rs (s &&& t) n = cRate rs s n + cRate rs t n := by
  induction n with
  | zero => rfl
  | succ n ih =>
    unfold cRate
    rw [Nat.testBit_or, Nat.testBit_and]
    cases s.testBit n <;> cases t.testBit n <;> simp [-List.getD_eq_getElem?_getD] <;> omega
def NN (rs : List Int) : Prop := ∀ k : Nat, 0 ≤ rs.getD k 0
theorem cRate_or (rs : List Int) (h : NN rs) (s t n : Nat) : 0 ≤ cRate rs (s ||| t) n ∧ cRate rs (s ||| t) n ≤ cRate rs s n := by
  induction n with
  | zero => exact ⟨Int.le_refl _, Int.le_refl _⟩
  | succ n ih =>
    have := h n
    unfold cRate
    rw [Nat.testBit_or]
    cases s.testBit n <;> cases t.testBit n <;> simp [-List.getD_eq_getElem?_getD] <;> omega
theorem cRate_nn (rs : List Int) (h : NN rs) (s n : Nat) : 0 ≤ cRate rs s n := by
  have := (cRate_or rs h s s n).1
  rwa [Nat.or_self] at this
theorem cFeed_nn (cs : List Int) (h : NN cs) (s n : Nat) : 0 ≤ cFeed cs s n := by
  induction n with
  | zero => exact Int.le_refl _
  | succ n ih => have := h n; unfold cFeed; split <;> omega
theorem cCars_nn (us : List Int) (rss : List (List Int)) (hu : NN us) (hr : ∀ k, NN (rss.getD k [])) (s n : Nat) : 0 ≤ cCars us rss s n := by
  induction n with
  | zero => exact Int.le_refl _
  | succ n ih => have := hu n; have := cRate_nn _ (hr n) s 6; unfold cCars; omega
theorem cCars_sub (us : List Int) (rss : List (List Int)) (hr : ∀ k, NN (rss.getD k [])) (s t n : Nat) : cCars us rss (s ||| t) n + cCars us rss (s &&& t) n ≤ cCars us rss s n + cCars us rss t n := by
  induction n with
  | zero => exact Int.le_refl _
  | succ n ih =>
    have h1 := cRate_mod (rss.getD n []) s t 6
    have h2 := (cRate_or (rss.getD n []) (hr n) s t 6).2
    have h3 := (cRate_or (rss.getD n []) (hr n) t s 6).2
    rw [Nat.or_comm] at h3
    unfold cCars
    omega
theorem cCars_or (us : List Int) (rss : List (List Int)) (hr : ∀ k, NN (rss.getD k [])) (s t n : Nat) : cCars us rss (s ||| t) n ≤ cCars us rss s n := by
  induction n with
  | zero => exact Int.le_refl _
  | succ n ih =>
    have h2 := (cRate_or (rss.getD n []) (hr n) s t 6).2
    unfold cCars
    omega
theorem cutV_nn (us : List Int) (rss : List (List Int)) (cs : List Int) (hu : NN us) (hr : ∀ k, NN (rss.getD k [])) (hc : NN cs) (s : Nat) : 0 ≤ cutV us rss cs s := by
  have := cFeed_nn cs hc s 6
  have := cCars_nn us rss hu hr s us.length
  unfold cutV; omega
theorem getD_set {α : Type} (l : List α) (i j : Nat) (v d : α) : (l.set i v).getD j d = if i = j ∧ i < l.length then v else l.getD j d := by
  rw [List.getD_eq_getElem?_getD, List.getD_eq_getElem?_getD, List.getElem?_set]
  by_cases e : i = j
  · subst e
    by_cases h : i < l.length
    · simp [-List.getD_eq_getElem?_getD, h]
    · simp [-List.getD_eq_getElem?_getD, h]
  · simp [-List.getD_eq_getElem?_getD, e]
theorem cFeed_set (cs : List Int) (h : Nat) (v : Int) (s n : Nat) (hl : h < cs.length) : cFeed (cs.set h v) s n = cFeed cs s n + if h < n ∧ s.testBit h = true then v - cs.getD h 0 else 0 := by
  induction n with
  | zero => simp [-List.getD_eq_getElem?_getD, cFeed]
  | succ n ih =>
    unfold cFeed
    rw [ih, getD_set]
    by_cases e : h = n
    · subst e
      simp only [Nat.lt_irrefl, false_and, if_false, true_and, hl, if_true, Nat.lt_succ_self]
      cases s.testBit h <;> simp [-List.getD_eq_getElem?_getD] <;> omega
    · rw [if_neg (show ¬ (h = n ∧ h < cs.length) from fun g => e g.1)]
      by_cases g : h < n
      · cases s.testBit h <;> simp [-List.getD_eq_getElem?_getD, g, show h < n + 1 by omega] <;> omega
      · simp [-List.getD_eq_getElem?_getD, g, show ¬ h < n + 1 by omega]
theorem cRate_set (rs : List Int) (h : Nat) (v : Int) (s n : Nat) (hl : h < rs.length) : cRate (rs.set h v) s n = cRate rs s n + if h < n ∧ s.testBit h = false then v - rs.getD h 0 else 0 := by
  induction n with
  | zero => simp [-List.getD_eq_getElem?_getD, cRate]
  | succ n ih =>
    unfold cRate
    rw [ih, getD_set]
    by_cases e : h = n
    · subst e
      simp only [Nat.lt_irrefl, false_and, if_false, true_and, hl, if_true, Nat.lt_succ_self]
      cases s.testBit h <;> simp [-List.getD_eq_getElem?_getD] <;> omega
    · rw [if_neg (show ¬ (h = n ∧ h < rs.length) from fun g => e g.1)]
      by_cases g : h < n
      · cases s.testBit h <;> simp [-List.getD_eq_getElem?_getD, g, show h < n + 1 by omega] <;> omega
      · simp [-List.getD_eq_getElem?_getD, g, show ¬ h < n + 1 by omega]
theorem cCars_set (us : List Int) (rss : List (List Int)) (i : Nat) (v : Int) (rs : List Int) (s n : Nat) (hu : i < us.length) (hr : i < rss.length) : cCars (us.set i v) (rss.set i rs) s n = cCars us rss s n + if i < n then min v (cRate rs s 6) - min (us.getD i 0) (cRate (rss.getD i []) s 6) else 0 := by
  induction n with
  | zero => simp [-List.getD_eq_getElem?_getD, cCars]
  | succ n ih =>
    unfold cCars
    rw [ih, getD_set, getD_set]
    by_cases e : i = n
    · subst e
      rw [if_neg (Nat.lt_irrefl i), if_pos ⟨rfl, hu⟩, if_pos ⟨rfl, hr⟩, if_pos (Nat.lt_succ_self i)]
      omega
    · rw [if_neg (show ¬ (i = n ∧ i < us.length) from fun g => e g.1), if_neg (show ¬ (i = n ∧ i < rss.length) from fun g => e g.1)]
      by_cases g : i < n
      · rw [if_pos g, if_pos (by omega)]; omega
      · rw [if_neg g, if_neg (by omega)]; omega
/-- what is there to be given, and how much of it must be -/
structure Chs where
  us : List Int
  rss : List (List Int)
  cs : List Int
def Chs.ok (σ : Chs) : Prop := σ.rss.length = σ.us.length ∧ σ.cs.length = 6 ∧ (∀ k, k < σ.us.length → (σ.rss.getD k []).length = 6) ∧ NN σ.us ∧ (∀ k, NN (σ.rss.getD k [])) ∧ NN σ.cs
def Chs.F (σ : Chs) : Int := lcV σ.us σ.rss σ.cs
/-- car i got u units in hour h, and gets no more in it -/
def Chs.give (σ : Chs) (i h : Nat) (u : Int) : Chs := ⟨σ.us.set i (σ.us.getD i 0 - u), σ.rss.set i ((σ.rss.getD i []).set h 0), σ.cs.set h (σ.cs.getD h 0 - u)⟩
def Chs.top (σ : Chs) (i h : Nat) : Int := min (min ((σ.rss.getD i []).getD h 0) (σ.us.getD i 0)) (σ.cs.getD h 0)
theorem Chs.ok.give_ok {σ : Chs} (hσ : σ.ok) {i h : Nat} {u : Int} (hi : i < σ.us.length) (hh : h < 6) (h0 : 0 ≤ u) (hu : u ≤ σ.top i h) : (σ.give i h u).ok := by
  obtain ⟨o1, o2, o3, o4, o5, o6⟩ := hσ
  unfold Chs.top at hu
  refine ⟨by simp [-List.getD_eq_getElem?_getD, Chs.give, o1], by simp [-List.getD_eq_getElem?_getD, Chs.give, o2], fun k hk => ?_, fun k => ?_, fun k => ?_, fun k => ?_⟩
  · simp only [Chs.give, List.length_set] at hk ⊢
    rw [getD_set]
    split
    · rw [List.length_set]; exact o3 i hi
    · exact o3 k hk
  · simp only [Chs.give]
    rw [getD_set]
    split
    · have := o4 i; omega
    · exact o4 k
  · simp only [Chs.give]
    rw [getD_set]
    split
    · intro j
      rw [getD_set]
      split
      · exact Int.le_refl _
      · exact o5 i j
    · exact o5 k
  · simp only [Chs.give]
    rw [getD_set]
    split
    · have := o6 h; omega
    · exact o6 k
/-- the cut behind a gift -/
theorem Chs.ok.give_cut {σ : Chs} (hσ : σ.ok) {i h : Nat} (u : Int) (hi : i < σ.us.length) (hh : h < 6) (s : Nat) :
    cutV (σ.give i h u).us (σ.give i h u).rss (σ.give i h u).cs s = cutV σ.us σ.rss σ.cs s - (if s.testBit h = true then u else 0) - min (σ.us.getD i 0) (cRate (σ.rss.getD i []) s 6) + min (σ.us.getD i 0 - u) (cRate (σ.rss.getD i []) s 6 - if s.testBit h = true then 0 else (σ.rss.getD i []).getD h 0) := by
  obtain ⟨o1, o2, o3, o4, o5, o6⟩ := hσ
  unfold cutV Chs.give
  simp only [List.length_set]
  rw [cFeed_set _ _ _ _ _ (by omega), cCars_set _ _ _ _ _ _ _ hi (by omega), cRate_set _ _ _ _ _ (by rw [o3 i hi]; exact hh), if_pos hi]
  cases s.testBit h
  · simp [-List.getD_eq_getElem?_getD, hh]; omega
  · simp [-List.getD_eq_getElem?_getD, hh]; omega
theorem cRate_has (rs : List Int) (hr : NN rs) (s h n : Nat) (hh : h < n) (hb : s.testBit h = false) : rs.getD h 0 ≤ cRate rs s n := by
  induction n with
  | zero => omega
  | succ n ih =>
    have h1 := hr n
    have h2 := cRate_nn rs hr s n
    unfold cRate
    by_cases e : h = n
    · subst e; rw [hb]; simp [-List.getD_eq_getElem?_getD]; omega
    · have := ih (by omega)
      split <;> omega
/-- a gift is never worth more than it gives -/
theorem Chs.ok.give_le {σ : Chs} (hσ : σ.ok) {i h : Nat} {u : Int} (hi : i < σ.us.length) (hh : h < 6) (h0 : 0 ≤ u) (hu : u ≤ σ.top i h) : u + (σ.give i h u).F ≤ σ.F := by
  obtain ⟨s, hs, e⟩ := lcV_at σ.us σ.rss σ.cs
  have g := hσ.give_cut u hi hh s
  have l := lcV_le (σ.give i h u).us (σ.give i h u).rss (σ.give i h u).cs s hs
  unfold Chs.F Chs.top at *
  rw [e]
  cases hb : s.testBit h
  · rw [hb] at g
    simp [-List.getD_eq_getElem?_getD] at g
    omega
  · rw [hb] at g
    simp [-List.getD_eq_getElem?_getD] at g
    omega
/-- some gift is worth it: the least of the sets with the hour falls by steps of 1, that of the sets without it rises -/
theorem Chs.ok.give_some {σ : Chs} (hσ : σ.ok) {i h : Nat} (hi : i < σ.us.length) (hh : h < 6) : ∃ u : Nat, (u : Int) ≤ σ.top i h ∧ σ.F ≤ u + (σ.give i h u).F := by
  have ho := hσ
  obtain ⟨o1, o2, o3, o4, o5, o6⟩ := hσ
  have w0 := o4 i
  have r0 := o5 i h
  have c0 := o6 h
  obtain ⟨m, hm⟩ : ∃ m, σ.F = m := ⟨_, rfl⟩
  have lo : ∀ s, s < 64 → m ≤ cutV σ.us σ.rss σ.cs s := fun s hs => by rw [← hm]; exact lcV_le _ _ _ s hs
  obtain ⟨M, hM⟩ : ∃ M : Nat, σ.top i h = M := ⟨(σ.top i h).toNat, by unfold Chs.top; omega⟩
  -- up to u the sets with the hour let enough through
  have walk : ∀ n : Nat, n ≤ M → (∃ u : Nat, u ≤ n ∧ (∀ s, s < 64 → s.testBit h = true → m ≤ u + cutV (σ.give i h u).us (σ.give i h u).rss (σ.give i h u).cs s) ∧ (u = n ∨ ∃ s, s < 64 ∧ s.testBit h = true ∧ ((u + 1 : Nat) : Int) + cutV (σ.give i h ((u + 1 : Nat) : Int)).us (σ.give i h ((u + 1 : Nat) : Int)).rss (σ.give i h ((u + 1 : Nat) : Int)).cs s < m)) := by
    intro n
    induction n with
    | zero =>
      intro _
      refine ⟨0, Nat.le_refl _, fun s hs hb => ?_, .inl rfl⟩
      have g := ho.give_cut ((0 : Nat) : Int) hi hh s
      rw [hb] at g
      simp [-List.getD_eq_getElem?_getD] at g
      have := lo s hs
      simp [-List.getD_eq_getElem?_getD]
      omega
    | succ n ih =>
      intro hn
      obtain ⟨u, u1, u2, u3⟩ := ih (by omega)
      rcases u3 with rfl | u3
      · by_cases hx : ∃ s, s < 64 ∧ s.testBit h = true ∧ ((u + 1 : Nat) : Int) + cutV (σ.give i h ((u + 1 : Nat) : Int)).us (σ.give i h ((u + 1 : Nat) : Int)).rss (σ.give i h ((u + 1 : Nat) : Int)).cs s < m
        · exact ⟨u, by omega, u2, .inr hx⟩
        · refine ⟨u + 1, Nat.le_refl _, fun s hs hb => ?_, .inl rfl⟩
          refine Classical.byContradiction fun hc => hx ⟨s, hs, hb, by omega⟩
      · exact ⟨u, by omega, u2, .inr u3⟩
  obtain ⟨u, u1, u2, u3⟩ := walk M (Nat.le_refl _)
  refine ⟨u, by omega, ?_⟩
  rw [hm]
  have : m - u ≤ (σ.give i h u).F := by
    refine lcV_ge fun t ht => ?_
    cases hb : t.testBit h
    · -- a set without the hour
      refine Classical.byContradiction fun hlt => ?_
      have gt := ho.give_cut (u : Int) hi hh t
      generalize cutV (σ.give i h (u : Int)).us (σ.give i h (u : Int)).rss (σ.give i h (u : Int)).cs t = C3 at gt hlt
      rw [hb] at gt
      simp [-List.getD_eq_getElem?_getD] at gt
      have lt := lo t ht
      have hr := cRate_has (σ.rss.getD i []) (o5 i) t h 6 hh hb
      -- the set with the hour, too
      obtain ⟨b, hbs⟩ : ∃ b, b = t ||| 2 ^ h := ⟨_, rfl⟩
      have hp : 2 ^ h < 64 := Nat.pow_lt_pow_right (by omega) (show h < 6 from hh)
      have hb64 : b < 64 := by rw [hbs]; exact or64 ht hp
      rcases u3 with rfl | ⟨s, hs, hsb, hsl⟩
      · -- at the end
        have hbb := lo b hb64
        have f1 : cFeed σ.cs b 6 = cFeed σ.cs t 6 + σ.cs.getD h 0 := by
          have key : ∀ n, cFeed σ.cs (t ||| 2 ^ h) n = cFeed σ.cs t n + if h < n then σ.cs.getD h 0 else 0 := by
            intro n
            induction n with
            | zero => simp [-List.getD_eq_getElem?_getD, cFeed]
            | succ n ih =>
              unfold cFeed
              rw [ih, Nat.testBit_or, Nat.testBit_two_pow]
              by_cases e : h = n
              · subst e; rw [hb]; simp [-List.getD_eq_getElem?_getD]
              · by_cases g : h < n
                · simp [-List.getD_eq_getElem?_getD, e, g, show h < n + 1 by omega]; omega
                · simp [-List.getD_eq_getElem?_getD, e, g, show ¬ h < n + 1 by omega]
          rw [hbs, key, if_pos hh]
        have f2 : cRate (σ.rss.getD i []) b 6 = cRate (σ.rss.getD i []) t 6 - (σ.rss.getD i []).getD h 0 := by
          have key : ∀ n, cRate (σ.rss.getD i []) (t ||| 2 ^ h) n = cRate (σ.rss.getD i []) t n - if h < n then (σ.rss.getD i []).getD h 0 else 0 := by
            intro n
            induction n with
            | zero => simp [-List.getD_eq_getElem?_getD, cRate]
            | succ n ih =>
              unfold cRate
              rw [ih, Nat.testBit_or, Nat.testBit_two_pow]
              by_cases e : h = n
              · subst e; rw [hb]; simp [-List.getD_eq_getElem?_getD]
              · by_cases g : h < n
                · simp [-List.getD_eq_getElem?_getD, e, g, show h < n + 1 by omega]; omega
                · simp [-List.getD_eq_getElem?_getD, e, g, show ¬ h < n + 1 by omega]
          rw [hbs, key, if_pos hh]
        have f3 : cCars σ.us σ.rss b σ.us.length - min (σ.us.getD i 0) (cRate (σ.rss.getD i []) b 6) ≤ cCars σ.us σ.rss t σ.us.length - min (σ.us.getD i 0) (cRate (σ.rss.getD i []) t 6) := by
          have key : ∀ n, cCars σ.us σ.rss (t ||| 2 ^ h) n - (if i < n then min (σ.us.getD i 0) (cRate (σ.rss.getD i []) (t ||| 2 ^ h) 6) else 0) ≤ cCars σ.us σ.rss t n - (if i < n then min (σ.us.getD i 0) (cRate (σ.rss.getD i []) t 6) else 0) := by
            intro n
            induction n with
            | zero => simp [-List.getD_eq_getElem?_getD, cCars]
            | succ n ih =>
              have h2 := (cRate_or (σ.rss.getD n []) (o5 n) t (2 ^ h) 6).2
              unfold cCars
              by_cases e : i = n
              · subst e
                rw [if_neg (Nat.lt_irrefl i), if_neg (Nat.lt_irrefl i)] at ih
                rw [if_pos (Nat.lt_succ_self i), if_pos (Nat.lt_succ_self i)]
                omega
              · by_cases g : i < n
                · rw [if_pos g, if_pos g] at ih
                  rw [if_pos (show i < n + 1 by omega), if_pos (show i < n + 1 by omega)]
                  omega
                · rw [if_neg g, if_neg g] at ih
                  rw [if_neg (show ¬ i < n + 1 by omega), if_neg (show ¬ i < n + 1 by omega)]
                  omega
          have := key σ.us.length
          rw [if_pos hi, if_pos hi] at this
          rw [hbs]; exact this
        unfold Chs.top at hM
        unfold cutV at gt lt hbb
        omega
      · -- two sets would cut too deep
        have gs := ho.give_cut ((u + 1 : Nat) : Int) hi hh s
        generalize cutV (σ.give i h ((u + 1 : Nat) : Int)).us (σ.give i h ((u + 1 : Nat) : Int)).rss (σ.give i h ((u + 1 : Nat) : Int)).cs s = C1 at gs hsl
        rw [hsb] at gs
        simp [-List.getD_eq_getElem?_getD] at gs
        have gs2 := ho.give_cut (u : Int) hi hh s
        have e2 := u2 s hs hsb
        generalize cutV (σ.give i h (u : Int)).us (σ.give i h (u : Int)).rss (σ.give i h (u : Int)).cs s = C2 at gs2 e2
        rw [hsb] at gs2
        simp [-List.getD_eq_getElem?_getD] at gs2
        have ls := lo s hs
        have l1 := lo (s ||| t) (or64 hs ht)
        have l2 := lo (s &&& t) (and64 hs)
        have m1 := cFeed_mod σ.cs s t 6
        have m2 := cCars_sub σ.us σ.rss o5 s t σ.us.length
        unfold Chs.top at hM
        -- car i alone
        have key : ∀ n, cCars σ.us σ.rss (s ||| t) n + cCars σ.us σ.rss (s &&& t) n - (if i < n then min (σ.us.getD i 0) (cRate (σ.rss.getD i []) (s ||| t) 6) + min (σ.us.getD i 0) (cRate (σ.rss.getD i []) (s &&& t) 6) else 0) ≤ cCars σ.us σ.rss s n + cCars σ.us σ.rss t n - (if i < n then min (σ.us.getD i 0) (cRate (σ.rss.getD i []) s 6) + min (σ.us.getD i 0) (cRate (σ.rss.getD i []) t 6) else 0) := by
          intro n
          induction n with
          | zero => simp [-List.getD_eq_getElem?_getD, cCars]
          | succ n ih =>
            have h1 := cRate_mod (σ.rss.getD n []) s t 6
            have h2 := (cRate_or (σ.rss.getD n []) (o5 n) s t 6).2
            have h3 := (cRate_or (σ.rss.getD n []) (o5 n) t s 6).2
            rw [Nat.or_comm] at h3
            unfold cCars
            by_cases e : i = n
            · subst e
              rw [if_neg (Nat.lt_irrefl i), if_neg (Nat.lt_irrefl i)] at ih
              rw [if_pos (Nat.lt_succ_self i), if_pos (Nat.lt_succ_self i)]
              omega
            · by_cases g : i < n
              · rw [if_pos g, if_pos g] at ih
                rw [if_pos (show i < n + 1 by omega), if_pos (show i < n + 1 by omega)]
                omega
              · rw [if_neg g, if_neg g] at ih
                rw [if_neg (show ¬ i < n + 1 by omega), if_neg (show ¬ i < n + 1 by omega)]
                omega
        have k1 := key σ.us.length
        rw [if_pos hi, if_pos hi] at k1
        have p1 : cRate (σ.rss.getD i []) (s ||| t) 6 + (σ.rss.getD i []).getD h 0 ≤ cRate (σ.rss.getD i []) t 6 := by
          have key : ∀ n, cRate (σ.rss.getD i []) (s ||| t) n + (if h < n then (σ.rss.getD i []).getD h 0 else 0) ≤ cRate (σ.rss.getD i []) t n := by
            intro n
            induction n with
            | zero => simp [-List.getD_eq_getElem?_getD, cRate]
            | succ n ih =>
              have := o5 i n
              unfold cRate
              rw [Nat.testBit_or]
              by_cases e : h = n
              · subst e
                rw [hsb, hb]
                simp [-List.getD_eq_getElem?_getD] at ih ⊢
                omega
              · have e1 : (h < n + 1) ↔ h < n := by omega
                simp only [e1]
                cases s.testBit n <;> cases t.testBit n <;> simp [-List.getD_eq_getElem?_getD] <;> omega
          have := key 6
          rwa [if_pos hh] at this
        unfold cutV at gt gs gs2 ls lt l1 l2
        omega
    · have := u2 t ht hb; omega
  omega
end Go.Proofs.Ytoiaggjjfahabaa
