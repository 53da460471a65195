/- Plain: the hours by ascending prices; the loads that cost the least. No program. -/
import Derived.Test.YtoiaggjjfahabaaDoorPCheap
namespace Go.Proofs.YtoiaggjjfahabaaDoor
set_option linter.unusedVariables false
theorem bsum_feed (cs : List Int) (s n : Nat) : bsum (fun h => cs.getD h 0) s n = cFeed cs s n := by
  induction n with
  | zero => rfl
  | succ n ih => unfold bsum cFeed; rw [ih]
theorem bsum_cost (ls ps : List Int) (n : Nat) (hn : n ≤ 6) : bsum (fun h => ls.getD h 0 * ps.getD h 0) 63 n = costTo ls ps n := by
  induction n with
  | zero => rfl
  | succ n ih =>
    have e : (63 : Nat).testBit n = true := by
      have : (63 : Nat).testBit n = decide (n < 6) := Nat.testBit_two_pow_sub_one 6 n
      rw [this, decide_eq_true (by omega)]
    unfold bsum costTo; rw [ih (by omega), e]; rfl
/-- of the hours below n that s has not the first of the least price; -1: there is none -/
def bstTo (ps : List Int) (s : Nat) : Nat → Int
  | 0 => -1
  | h + 1 => if s.testBit h = false ∧ (bstTo ps s h < 0 ∨ ps.getD h 0 < ps.getD (bstTo ps s h).toNat 0) then (h : Int) else bstTo ps s h
/-- hour i comes before hour j -/
def lx (ps : List Int) (i j : Nat) : Prop := ps.getD i 0 < ps.getD j 0 ∨ (ps.getD i 0 = ps.getD j 0 ∧ i < j)
instance (ps : List Int) (i j : Nat) : Decidable (lx ps i j) := by unfold lx; infer_instance
theorem bstTo_spec (ps : List Int) (s n : Nat) : (bstTo ps s n = -1 ∧ ∀ h, h < n → s.testBit h = true) ∨ (∃ b : Nat, bstTo ps s n = b ∧ b < n ∧ s.testBit b = false ∧ ∀ h, h < n → s.testBit h = false → h = b ∨ lx ps b h) := by
  induction n with
  | zero => exact .inl ⟨rfl, fun h hh => absurd hh (by omega)⟩
  | succ n ih =>
    unfold bstTo
    by_cases hc : s.testBit n = false ∧ (bstTo ps s n < 0 ∨ ps.getD n 0 < ps.getD (bstTo ps s n).toNat 0)
    · rw [if_pos hc]
      refine .inr ⟨n, rfl, by omega, hc.1, fun h hh hb => ?_⟩
      by_cases e : h = n
      · exact .inl e
      · rcases ih with ⟨i1, i2⟩ | ⟨b, i1, i2, i3, i4⟩
        · have := i2 h (by omega); rw [hb] at this; cases this
        · have h5 : ps.getD n 0 < ps.getD b 0 := by
            rcases hc.2 with g | g
            · omega
            · rw [i1] at g; exact g
          rcases i4 h (by omega) hb with rfl | g
          · exact .inr (.inl h5)
          · unfold lx at g; exact .inr (.inl (by omega))
    · rw [if_neg hc]
      rcases ih with ⟨i1, i2⟩ | ⟨b, i1, i2, i3, i4⟩
      · refine .inl ⟨i1, fun h hh => ?_⟩
        by_cases e : h = n
        · subst e
          cases hb : s.testBit h with
          | true => rfl
          | false => exact absurd ⟨hb, .inl (by omega)⟩ hc
        · exact i2 h (by omega)
      · refine .inr ⟨b, i1, by omega, i3, fun h hh hb => ?_⟩
        by_cases e : h = n
        · subst e
          refine .inr ?_
          have : ¬ ps.getD h 0 < ps.getD b 0 := fun g => hc ⟨hb, .inr (by rw [i1]; exact g)⟩
          unfold lx; omega
        · exact i4 h (by omega) hb
/-- the hours of the first n choices -/
def spS (ps : List Int) : Nat → Nat
  | 0 => 0
  | n + 1 => spS ps n ||| 2 ^ (bstTo ps (spS ps n) 6).toNat
def ordL (ps : List Int) : List Nat := (List.range 6).map fun n => (bstTo ps (spS ps n) 6).toNat
theorem ordL_at (ps : List Int) (n : Nat) (hn : n < 6) : (ordL ps).getD n 0 = (bstTo ps (spS ps n) 6).toNat := by
  unfold ordL
  rw [List.getD_eq_getElem?_getD, List.getElem?_map, List.getElem?_range hn]; rfl
theorem pre_sp (ps : List Int) (n : Nat) (hn : n ≤ 6) : pre (ordL ps) n = spS ps n := by
  induction n with
  | zero => rfl
  | succ n ih => unfold pre spS; rw [ih (by omega), ordL_at ps n (by omega)]
theorem spS_count (ps : List Int) (n : Nat) (hn : n ≤ 6) : bsum (fun _ => 1) (spS ps n) 6 = n ∧ (n < 6 → ∃ b : Nat, bstTo ps (spS ps n) 6 = b ∧ b < 6 ∧ (spS ps n).testBit b = false ∧ ∀ h, h < 6 → (spS ps n).testBit h = false → h = b ∨ lx ps b h) := by
  have free : ∀ s, bsum (fun _ => 1) s 6 < 6 → ∃ b : Nat, bstTo ps s 6 = b ∧ b < 6 ∧ s.testBit b = false ∧ ∀ h, h < 6 → s.testBit h = false → h = b ∨ lx ps b h := by
    intro s hs
    rcases bstTo_spec ps s 6 with ⟨_, g⟩ | g
    · exfalso
      simp only [bsum] at hs
      rw [g 0 (by omega), g 1 (by omega), g 2 (by omega), g 3 (by omega), g 4 (by omega), g 5 (by omega)] at hs
      simp [-List.getD_eq_getElem?_getD] at hs
    · exact g
  induction n with
  | zero => exact ⟨by simp [-List.getD_eq_getElem?_getD, bsum, spS], fun _ => free _ (by simp [-List.getD_eq_getElem?_getD, bsum, spS])⟩
  | succ n ih =>
    obtain ⟨i1, i2⟩ := ih (by omega)
    obtain ⟨b, b1, b2, b3, b4⟩ := i2 (by omega)
    have e : bsum (fun _ => 1) (spS ps (n + 1)) 6 = ((n + 1 : Nat) : Int) := by
      unfold spS
      rw [b1, show ((b : Nat) : Int).toNat = b from Int.toNat_natCast b, bsum_or _ _ _ _ b3, if_pos b2, i1]; omega
    exact ⟨e, fun h => free _ (by omega)⟩
theorem sp_pick (ps : List Int) (n : Nat) (hn : n < 6) : ∃ b : Nat, bstTo ps (spS ps n) 6 = b ∧ (ordL ps).getD n 0 = b ∧ b < 6 ∧ (spS ps n).testBit b = false ∧ ∀ h, h < 6 → (spS ps n).testBit h = false → h = b ∨ lx ps b h := by
  obtain ⟨b, b1, b2, b3, b4⟩ := (spS_count ps n (by omega)).2 hn
  exact ⟨b, b1, by rw [ordL_at ps n hn, b1]; rfl, b2, b3, b4⟩
theorem ordL_ord (ps : List Int) : Ord (ordL ps) := by
  have key : ∀ n m, n < m → m < 6 → (ordL ps).getD n 0 ≠ (ordL ps).getD m 0 := by
    intro n m hnm hm he
    obtain ⟨b, _, b2, _, b4, _⟩ := sp_pick ps m hm
    have := (pre_bit (ordL ps) m b).2 ⟨n, hnm, by rw [he, b2]⟩
    rw [pre_sp ps m (by omega), b4] at this
    cases this
  refine ⟨by simp [-List.getD_eq_getElem?_getD, ordL], fun n hn => ?_, fun n m hn hm he => ?_⟩
  · obtain ⟨b, _, b2, b3, _⟩ := sp_pick ps n hn; omega
  · rcases Nat.lt_trichotomy n m with g | g | g
    · exact absurd he (key n m g hm)
    · exact g
    · exact absurd he.symm (key m n g hn)
/-- the hours that come before h -/
def lbTo (ps : List Int) (h : Nat) : Nat → Nat
  | 0 => 0
  | j + 1 => if lx ps j h then lbTo ps h j ||| 2 ^ j else lbTo ps h j
def lbS (ps : List Int) (h : Nat) : Nat := lbTo ps h 6
theorem lbTo_bit (ps : List Int) (h n j : Nat) : (lbTo ps h n).testBit j = true ↔ j < n ∧ lx ps j h := by
  induction n with
  | zero => simp [-List.getD_eq_getElem?_getD, lbTo]
  | succ n ih =>
    unfold lbTo
    split
    · rename_i g
      rw [Nat.testBit_or, Bool.or_eq_true, ih, Nat.testBit_two_pow, decide_eq_true_iff]
      constructor
      · rintro (⟨a, b⟩ | rfl)
        · exact ⟨by omega, b⟩
        · exact ⟨by omega, g⟩
      · rintro ⟨a, b⟩
        by_cases e : n = j
        · exact .inr e
        · exact .inl ⟨by omega, b⟩
    · rename_i g
      rw [ih]
      constructor
      · rintro ⟨a, b⟩; exact ⟨by omega, b⟩
      · rintro ⟨a, b⟩
        by_cases e : j = n
        · subst e; exact absurd b g
        · exact ⟨by omega, b⟩
theorem bits_eq {s t : Nat} (hs : s < 64) (ht : t < 64) (h : ∀ j, j < 6 → (s.testBit j = true ↔ t.testBit j = true)) : s = t := by
  apply Nat.eq_of_testBit_eq
  intro j
  by_cases g : j < 6
  · rw [Bool.eq_iff_iff]; exact h j g
  · have hp : 64 ≤ 2 ^ j := Nat.pow_le_pow_right (n := 2) (by omega) (show 6 ≤ j by omega)
    rw [Nat.testBit_lt_two_pow (Nat.lt_of_lt_of_le hs hp), Nat.testBit_lt_two_pow (Nat.lt_of_lt_of_le ht hp)]
theorem lt64_of {s : Nat} (h : ∀ j, s.testBit j = true → j < 6) : s < 64 := by
  refine Nat.lt_of_not_le fun g => ?_
  obtain ⟨j, hj, hb⟩ := Nat.exists_ge_and_testBit_of_ge_two_pow (n := 6) g
  have := h j hb
  omega
theorem lbS_lt (ps : List Int) (h : Nat) : lbS ps h < 64 := lt64_of fun j hj => ((lbTo_bit ps h 6 j).1 hj).1
theorem spS_lt (ps : List Int) (n : Nat) (hn : n ≤ 6) : spS ps n < 64 := lt64_of fun j hj => by
  rw [← pre_sp ps n hn, pre_bit] at hj
  obtain ⟨m, h1, h2⟩ := hj
  have := (ordL_ord ps).lt m (by omega)
  omega
/-- the hours chosen before one are those that come before it -/
theorem sp_lb (ps : List Int) (n : Nat) (hn : n < 6) : spS ps n = lbS ps ((ordL ps).getD n 0) := by
  have low : ∀ n, n ≤ 6 → ∀ i j, i < 6 → (spS ps n).testBit j = true → lx ps i j → (spS ps n).testBit i = true := by
    intro n
    induction n with
    | zero => intro _ i j _ hj; simp [-List.getD_eq_getElem?_getD, spS] at hj
    | succ n ih =>
      intro hn i j hi hj hl
      obtain ⟨b, b1, _, b2, b3, b4⟩ := sp_pick ps n (by omega)
      have e : spS ps (n + 1) = spS ps n ||| 2 ^ b := by
        show spS ps n ||| 2 ^ (bstTo ps (spS ps n) 6).toNat = _
        rw [b1]; rfl
      rw [e, Nat.testBit_or, Bool.or_eq_true, Nat.testBit_two_pow, decide_eq_true_iff] at hj ⊢
      rcases hj with g | rfl
      · exact .inl (ih (by omega) i j hi g hl)
      · cases hb : (spS ps n).testBit i with
        | true => exact .inl rfl
        | false =>
          rcases b4 i hi hb with rfl | g
          · exact .inr rfl
          · unfold lx at g hl; omega
  obtain ⟨b, b1, b2, b3, b4, b5⟩ := sp_pick ps n hn
  rw [b2]
  refine bits_eq (spS_lt ps n (by omega)) (lbS_lt ps b) fun j hj => ?_
  unfold lbS
  rw [lbTo_bit]
  constructor
  · intro h
    refine ⟨hj, ?_⟩
    by_cases e : j = b
    · subst e; rw [b4] at h; cases h
    · refine Classical.byContradiction fun hn => ?_
      have := low n (by omega) b j b3 h (by unfold lx at hn ⊢; omega)
      rw [b4] at this; cases this
  · rintro ⟨_, h⟩
    cases hb : (spS ps n).testBit j with
    | true => rfl
    | false =>
      rcases b5 j hj hb with rfl | g
      · unfold lx at h; omega
      · unfold lx at g h; omega
/-- by how much the hour h makes the most greater -/
def clV (us : List Int) (rss : List (List Int)) (cs ps : List Int) (h : Nat) : Int := fV us rss cs (lbS ps h ||| 2 ^ h) - fV us rss cs (lbS ps h)
/-- the loads of the hours that s has -/
def clS (us : List Int) (rss : List (List Int)) (cs ps : List Int) (s : Nat) : List Int := (List.range 6).map fun h => if s.testBit h then clV us rss cs ps h else 0
theorem clS_len (us : List Int) (rss : List (List Int)) (cs ps : List Int) (s : Nat) : (clS us rss cs ps s).length = 6 := by simp [-List.getD_eq_getElem?_getD, clS]
theorem clS_set (us : List Int) (rss : List (List Int)) (cs ps : List Int) (s h : Nat) : (clS us rss cs ps s).set h (clV us rss cs ps h) = clS us rss cs ps (s ||| 2 ^ h) := by
  apply List.ext_getElem?
  intro j
  unfold clS
  rw [List.getElem?_set, List.getElem?_map, List.getElem?_map]
  by_cases hj : j < 6
  · rw [List.getElem?_range hj]
    simp only [Option.map_some, Nat.testBit_or, Nat.testBit_two_pow]
    by_cases e : h = j
    · subst e; simp [-List.getD_eq_getElem?_getD, hj]
    · have : decide (h = j) = false := by simpa using e
      simp [-List.getD_eq_getElem?_getD, e]
  · rw [List.getElem?_eq_none (by simp [-List.getD_eq_getElem?_getD]; omega)]
    split
    · rename_i e; subst e; simp [-List.getD_eq_getElem?_getD, hj]
    · rfl
theorem ld_cl (us : List Int) (rss : List (List Int)) (cs ps : List Int) (n : Nat) (hn : n ≤ 6) : ldTo us rss cs (ordL ps) n = clS us rss cs ps (spS ps n) := by
  induction n with
  | zero =>
    apply List.ext_getElem?
    intro j
    unfold clS
    simp only [ldTo, spS, Nat.zero_testBit]
    rw [List.getElem?_map]
    by_cases hj : j < 6
    · rw [List.getElem?_range hj, List.getElem?_replicate, if_pos hj]; rfl
    · rw [List.getElem?_eq_none (by simp [-List.getD_eq_getElem?_getD]; omega), List.getElem?_eq_none (by simp [-List.getD_eq_getElem?_getD]; omega)]; rfl
  | succ n ih =>
    obtain ⟨b, b1, b2, b3, b4, b5⟩ := sp_pick ps n (by omega)
    have e : spS ps (n + 1) = spS ps n ||| 2 ^ b := by
      show spS ps n ||| 2 ^ (bstTo ps (spS ps n) 6).toNat = _
      rw [b1]; rfl
    have l := sp_lb ps n (by omega)
    unfold ldTo
    rw [ih (by omega), pre_sp ps (n + 1) hn, pre_sp ps n (by omega), b2, e]
    rw [b2] at l
    have : fV us rss cs (spS ps n ||| 2 ^ b) - fV us rss cs (spS ps n) = clV us rss cs ps b := by unfold clV; rw [l]
    rw [this, clS_set]
theorem sp_all (ps : List Int) : spS ps 6 = 63 := by rw [← pre_sp ps 6 (Nat.le_refl _)]; exact (ordL_ord ps).all
/-- CheapLoads -/
def clL (us : List Int) (rss : List (List Int)) (cs ps : List Int) : List Int := clS us rss cs ps 63
theorem clL_eq (us : List Int) (rss : List (List Int)) (cs ps : List Int) : clL us rss cs ps = ldTo us rss cs (ordL ps) 6 := by
  unfold clL
  rw [ld_cl us rss cs ps 6 (Nat.le_refl _), sp_all]
theorem ord_sum (ps : List Int) (z : Nat → Int) (n : Nat) (hn : n < 6) : bsum z (pre (ordL ps) (n + 1)) 6 = bsum z (pre (ordL ps) n) 6 + z ((ordL ps).getD n 0) := by
  have ho := ordL_ord ps
  show bsum z (pre (ordL ps) n ||| 2 ^ (ordL ps).getD n 0) 6 = _
  rw [bsum_or _ _ _ _ (ho.fresh hn), if_pos (ho.lt n hn)]
theorem ord_price (ps : List Int) (n : Nat) (hn : n + 1 < 6) : ps.getD ((ordL ps).getD n 0) 0 ≤ ps.getD ((ordL ps).getD (n + 1) 0) 0 := by
  obtain ⟨b, b1, b2, b3, b4, b5⟩ := sp_pick ps n (by omega)
  obtain ⟨c, c1, c2, c3, c4, c5⟩ := sp_pick ps (n + 1) hn
  rw [b2, c2]
  have h : (spS ps n).testBit c = false := by
    cases hb : (spS ps n).testBit c with
    | false => rfl
    | true =>
      have e : spS ps (n + 1) = spS ps n ||| 2 ^ (bstTo ps (spS ps n) 6).toNat := rfl
      rw [e, Nat.testBit_or, hb] at c4; simp [-List.getD_eq_getElem?_getD] at c4
  rcases b5 c c3 h with rfl | g
  · exact Int.le_refl _
  · unfold lx at g; omega
/-- no loads of the most units cost less -/
theorem cl_least {us : List Int} {rss : List (List Int)} {cs ps ys : List Int} (hu : NN us) (hr : ∀ k, NN (rss.getD k [])) (hc : NN cs) (hp : NN ps) (hy : ∀ T, T < 64 → cFeed ys T 6 ≤ fV us rss cs T) (hall : cFeed ys 63 6 = fV us rss cs 63) :
    costTo (clL us rss cs ps) ps 6 ≤ costTo ys ps 6 := by
  have ho := ordL_ord ps
  obtain ⟨o, hoe⟩ : ∃ o, ordL ps = o := ⟨_, rfl⟩
  have os := ord_sum ps
  have op := ord_price ps
  rw [clL_eq, hoe]
  rw [hoe] at ho os op
  obtain ⟨x, hx⟩ : ∃ x, ldTo us rss cs o 6 = x := ⟨_, rfl⟩
  rw [hx]
  have X : ∀ n, n ≤ 6 → cFeed x (pre o n) 6 = fV us rss cs (pre o n) := by
    intro n hn
    have s := ld_sum (us := us) (rss := rss) ho hu hr hc n hn
    have key : ∀ m, n + m ≤ 6 → cFeed (ldTo us rss cs o (n + m)) (pre o n) 6 = cFeed (ldTo us rss cs o n) (pre o n) 6 := by
      intro m
      induction m with
      | zero => intro _; rfl
      | succ m ih =>
        intro hm
        have : (pre o n).testBit (o.getD (n + m) 0) = false := by
          cases h : (pre o n).testBit (o.getD (n + m) 0) with
          | false => rfl
          | true =>
            obtain ⟨q, h1, h2⟩ := (pre_bit o n _).1 h
            have := ho.inj q (n + m) (by omega) (by omega) h2
            omega
        show cFeed ((ldTo us rss cs o (n + m)).set (o.getD (n + m) 0) _) (pre o n) 6 = _
        rw [cFeed_set _ _ _ _ _ (by rw [ldTo_len]; exact ho.lt _ (by omega)), this, ih (by omega)]
        simp [-List.getD_eq_getElem?_getD]
    have k := key (6 - n) (by omega)
    rw [show n + (6 - n) = 6 by omega, hx] at k
    have z : ∀ m, cFeed (ldTo us rss cs o n) 63 m = cFeed (ldTo us rss cs o n) (pre o n) m + (cFeed (ldTo us rss cs o n) 63 m - cFeed (ldTo us rss cs o n) (pre o n) m) := fun m => by omega
    have zz : ∀ m, m ≤ 6 → cFeed (ldTo us rss cs o n) 63 m = cFeed (ldTo us rss cs o n) (pre o n) m := by
      intro m
      induction m with
      | zero => intro _; rfl
      | succ m ih =>
        intro hm
        have e : (63 : Nat).testBit m = true := by
          have : (63 : Nat).testBit m = decide (m < 6) := Nat.testBit_two_pow_sub_one 6 m
          rw [this, decide_eq_true (by omega)]
        unfold cFeed
        rw [ih (by omega), e]
        cases hb : (pre o n).testBit m with
        | true => rfl
        | false => rw [ld_fresh ho hn m hb]; rfl
    rw [k, ← zz 6 (Nat.le_refl _), s]
  have Y : ∀ n, n ≤ 6 → cFeed ys (pre o n) 6 ≤ fV us rss cs (pre o n) := fun n hn => by
    refine hy _ (lt64_of fun j hj => ?_)
    obtain ⟨m, h1, h2⟩ := (pre_bit o n j).1 hj
    have := ho.lt m (by omega)
    omega
  have main : ∀ n, n < 6 → 0 ≤ bsum (fun h => ys.getD h 0 * ps.getD h 0) (pre o (n + 1)) 6 - bsum (fun h => x.getD h 0 * ps.getD h 0) (pre o (n + 1)) 6 + ps.getD (o.getD n 0) 0 * (cFeed x (pre o (n + 1)) 6 - cFeed ys (pre o (n + 1)) 6) := by
    intro n
    induction n with
    | zero =>
      intro _
      have e1 := os (fun h => ys.getD h 0 * ps.getD h 0) 0 (by omega)
      have e2 := os (fun h => x.getD h 0 * ps.getD h 0) 0 (by omega)
      have e3 := os (fun h => ys.getD h 0) 0 (by omega)
      have e4 := os (fun h => x.getD h 0) 0 (by omega)
      rw [bsum_feed, bsum_feed] at e3 e4
      have z0 : ∀ (z : Nat → Int) m, bsum z (pre o 0) m = 0 := fun z m => by induction m with | zero => rfl | succ m ih => unfold bsum; rw [ih]; simp [-List.getD_eq_getElem?_getD, pre]
      have z1 : ∀ (l : List Int), cFeed l (pre o 0) 6 = 0 := fun l => by rw [← bsum_feed, z0]
      rw [z0] at e1 e2
      rw [z1] at e3 e4
      rw [e1, e2, e3, e4]
      have : ps.getD (o.getD 0 0) 0 * (0 + x.getD (o.getD 0 0) 0 - (0 + ys.getD (o.getD 0 0) 0)) = x.getD (o.getD 0 0) 0 * ps.getD (o.getD 0 0) 0 - ys.getD (o.getD 0 0) 0 * ps.getD (o.getD 0 0) 0 := by
        rw [Int.zero_add, Int.zero_add, Int.mul_comm, Int.sub_mul]
      omega
    | succ n ih =>
      intro hn
      have ih := ih (by omega)
      have e1 := os (fun h => ys.getD h 0 * ps.getD h 0) (n + 1) hn
      have e2 := os (fun h => x.getD h 0 * ps.getD h 0) (n + 1) hn
      have e3 := os (fun h => ys.getD h 0) (n + 1) hn
      have e4 := os (fun h => x.getD h 0) (n + 1) hn
      rw [bsum_feed, bsum_feed] at e3 e4
      have pr := op n hn
      have E : 0 ≤ cFeed x (pre o (n + 1)) 6 - cFeed ys (pre o (n + 1)) 6 := by
        have := X (n + 1) (by omega); have := Y (n + 1) (by omega); omega
      have mul := Int.mul_le_mul_of_nonneg_right pr E
      rw [e1, e2, e3, e4]
      have d : ps.getD (o.getD (n + 1) 0) 0 * (cFeed x (pre o (n + 1)) 6 + x.getD (o.getD (n + 1) 0) 0 - (cFeed ys (pre o (n + 1)) 6 + ys.getD (o.getD (n + 1) 0) 0)) = ps.getD (o.getD (n + 1) 0) 0 * (cFeed x (pre o (n + 1)) 6 - cFeed ys (pre o (n + 1)) 6) + x.getD (o.getD (n + 1) 0) 0 * ps.getD (o.getD (n + 1) 0) 0 - ys.getD (o.getD (n + 1) 0) 0 * ps.getD (o.getD (n + 1) 0) 0 := by
        rw [Int.mul_comm (x.getD (o.getD (n + 1) 0) 0), Int.mul_comm (ys.getD (o.getD (n + 1) 0) 0), ← Int.mul_add, ← Int.mul_sub]
        congr 1
        omega
      omega
  have m5 := main 5 (by omega)
  have x6 := X 6 (Nat.le_refl _)
  rw [ho.all] at x6 m5
  rw [x6, hall, Int.sub_self, Int.mul_zero, bsum_cost _ _ 6 (Nat.le_refl _), bsum_cost _ _ 6 (Nat.le_refl _)] at m5
  omega
/-- the loads of a plan -/
theorem Plan.set_le {us : List Int} {rss : List (List Int)} {cs : List Int} {p : List (List Int)} (h : Plan us rss cs p) (T : Nat) : setL p us.length T 6 ≤ fV us rss cs T := by
  refine lcV_ge fun s _ => ?_
  rw [fV_cut]
  -- the hours of T by those of s
  have hrow : ∀ n, n ≤ us.length → ∀ m, setL p n T m ≤ setL p n (s &&& T) m + cCars us rss s n + (setL p n T m - setL p n (s &&& T) m - cCars us rss s n) := fun n _ m => by omega
  have key : ∀ n, n ≤ us.length → setL p n T 6 ≤ setL p n (s &&& T) 6 + cCars us rss s n := by
    intro n
    induction n with
    | zero => intro _; have : ∀ t m, setL p 0 t m = 0 := (fun t m => by induction m with | zero => rfl | succ m ih => unfold setL; rw [ih]; simp [-List.getD_eq_getElem?_getD, loadL]); rw [this, this]; simp [-List.getD_eq_getElem?_getD, cCars]
    | succ n ih =>
      intro hn
      have ih := ih (by omega)
      have r := h.row n (by omega)
      have s6 := h.sum n (by omega)
      have k : ∀ m, (setL p (n + 1) T m - setL p n T m) ≤ (setL p (n + 1) (s &&& T) m - setL p n (s &&& T) m) + cRate (rss.getD n []) s m ∧ (setL p (n + 1) T m - setL p n T m) ≤ sumL (p.getD n []) m ∧ 0 ≤ setL p (n + 1) (s &&& T) m - setL p n (s &&& T) m := by
        intro m
        induction m with
        | zero => simp [-List.getD_eq_getElem?_getD, setL, cRate, sumL]
        | succ m ihm =>
          have a := r m
          have e : loadL p m (n + 1) = loadL p m n + (p.getD n []).getD m 0 := rfl
          unfold setL cRate sumL
          rw [e, Nat.testBit_and]
          cases s.testBit m <;> cases T.testBit m <;> simp [-List.getD_eq_getElem?_getD] <;> omega
      have k6 := k 6
      unfold cCars
      omega
  have key2 : ∀ m, m ≤ 6 → setL p us.length (s &&& T) m ≤ cFeed cs (s &&& T) m := by
    intro m
    induction m with
    | zero => intro _; exact Int.le_refl _
    | succ m ih =>
      intro hm
      have := ih (by omega)
      have := h.load m (by omega)
      unfold setL cFeed
      split <;> omega
  have a := key us.length (Nat.le_refl _)
  have b := key2 6 (Nat.le_refl _)
  omega
def loadsL (p : List (List Int)) (n : Nat) : List Int := (List.range 6).map fun h => loadL p h n
theorem loadsL_feed (p : List (List Int)) (n s m : Nat) (hm : m ≤ 6) : cFeed (loadsL p n) s m = setL p n s m := by
  induction m with
  | zero => rfl
  | succ m ih =>
    unfold cFeed setL
    rw [ih (by omega)]
    unfold loadsL
    rw [List.getD_eq_getElem?_getD, List.getElem?_map, List.getElem?_range (by omega)]
    rfl
theorem rstr_all (cs : List Int) (h : cs.length = 6) : rstr cs 63 = cs := by
  apply List.ext_getElem?
  intro j
  unfold rstr
  rw [List.getElem?_map]
  by_cases hj : j < 6
  · have e : (63 : Nat).testBit j = true := by
      have : (63 : Nat).testBit j = decide (j < 6) := Nat.testBit_two_pow_sub_one 6 j
      rw [this, decide_eq_true hj]
    rw [List.getElem?_range hj]
    rw [List.getElem?_eq_getElem (by omega)]
    simp only [Option.map_some, e, if_true]
    rw [List.getD_eq_getElem?_getD, List.getElem?_eq_getElem (by omega)]; rfl
  · rw [List.getElem?_eq_none (by simp [-List.getD_eq_getElem?_getD]; omega), List.getElem?_eq_none (by omega)]; rfl
/-- nobody charges as much for less -/
theorem Plan.cost_le {us : List Int} {rss : List (List Int)} {cs ps : List Int} {p : List (List Int)} (h : Plan us rss cs p) (hu : NN us) (hr : ∀ k, NN (rss.getD k [])) (hc : NN cs) (hp : NN ps) (hl : cs.length = 6) (hall : allL p us.length = lcV us rss cs) :
    costTo (clL us rss cs ps) ps 6 ≤ costTo (loadsL p us.length) ps 6 := by
  have e63 : fV us rss cs 63 = lcV us rss cs := by unfold fV; rw [rstr_all cs hl]
  refine cl_least hu hr hc hp (fun T _ => ?_) ?_
  · rw [loadsL_feed _ _ _ _ (Nat.le_refl _)]; exact h.set_le T
  · rw [loadsL_feed _ _ _ _ (Nat.le_refl _), ← load_all, hall, e63]
end Go.Proofs.YtoiaggjjfahabaaDoor
