/- Plain: out of a great stock the least number of coins is the least of all; coin by coin, the greatest kind that can be in the fewest coins first, the best way comes about; a greater stock is never worse. No program. -/
import Derived.Test.YtoiaggjjfahabaaDoorPLeast
namespace Go.Proofs.YtoiaggjjfahabaaDoor
set_option linter.unusedVariables false
theorem gd_lo {α : Type} (l : List α) (x d : α) (k : Nat) (h : k < l.length) : (l ++ [x]).getD k d = l.getD k d := by
  rw [List.getD_eq_getElem?_getD, List.getD_eq_getElem?_getD, List.getElem?_append_left h]
theorem gd_at {α : Type} (l : List α) (x d : α) (k : Nat) (h : k = l.length) : (l ++ [x]).getD k d = x := by
  subst h; simp [List.getD_eq_getElem?_getD]
theorem gd_hi {α : Type} (l : List α) (d : α) (k : Nat) (h : l.length ≤ k) : l.getD k d = d := by
  rw [List.getD_eq_getElem?_getD, List.getElem?_eq_none h]; rfl
theorem cnt_iff {q c s j : Nat} (hc : 1 ≤ c) : j < cnt q c s ↔ j ≤ q ∧ j * c ≤ s := by
  unfold cnt
  have := @Nat.le_div_iff_mul_le c j s (by omega)
  omega
theorem cost_least (z q : Nat → Nat) (i s : Nat) (hz : ∀ j, j < i → 1 ≤ z j) (hq : ∀ j, j < i → s ≤ q j) : Least z i s (cost z q i s) := by
  induction i generalizing s with
  | zero =>
    unfold cost
    split
    · rename_i h; exact .inr ⟨0, rfl, ⟨h, rfl⟩, fun _ _ => Nat.zero_le _⟩
    · rename_i h; exact .inl ⟨rfl, fun n g => h g.1⟩
  | succ i ih =>
    have hzi := hz i (by omega)
    have hqi := hq i (by omega)
    have hc : ∀ j, j < cnt (q i) (z i) s ↔ j * z i ≤ s := fun j => by
      rw [cnt_iff hzi]
      constructor
      · exact fun h => h.2
      · intro h
        have : j ≤ j * z i := Nat.le_mul_of_pos_right _ hzi
        exact ⟨by omega, h⟩
    have I := fun j => ih (s - j * z i) (fun k hk => hz k (by omega)) (fun k hk => by have := hq k (by omega); omega)
    show Least z (i + 1) s (cTo (cost z q i) (z i) s (cnt (q i) (z i) s))
    rcases cTo_spec (cost z q i) (z i) s (cnt (q i) (z i) s) with ⟨h1, h2⟩ | ⟨⟨j, hj, hf, he⟩, h2⟩
    · rw [h1]
      refine .inl ⟨rfl, fun n => ?_⟩
      rintro ⟨m, a, b, c⟩
      have h3 := h2 m ((hc m).2 b)
      rcases I m with ⟨_, g⟩ | ⟨n', g, _⟩
      · exact g _ c
      · omega
    · rcases I j with ⟨g, _⟩ | ⟨n', g, g1, g2⟩
      · omega
      · refine .inr ⟨n' + j, by omega, ⟨j, by omega, (hc j).1 hj, by rw [Nat.add_sub_cancel]; exact g1⟩, fun n => ?_⟩
        rintro ⟨m, a, b, c⟩
        rcases I m with ⟨_, q1⟩ | ⟨n'', q1, _, q2⟩
        · exact absurd c (q1 _)
        · have e1 := q2 _ c
          have e2 := h2 m ((hc m).2 b) (by omega)
          omega
theorem cost_sol {z q : Nat → Nat} {i s x : Nat} (hz : ∀ j, j < i → 1 ≤ z j) (hq : ∀ j, j < i → s ≤ q j) (h : cost z q i s = (x : Int)) : Sol z i s x ∧ ∀ x', Sol z i s x' → x ≤ x' := by
  rcases cost_least z q i s hz hq with ⟨g, _⟩ | ⟨n, g, g1, g2⟩
  · omega
  · have : n = x := by omega
    subst this; exact ⟨g1, g2⟩
theorem sol_cost {z q : Nat → Nat} {i s x : Nat} (hz : ∀ j, j < i → 1 ≤ z j) (hq : ∀ j, j < i → s ≤ q j) (h : Sol z i s x) (hm : ∀ x', Sol z i s x' → x ≤ x') : cost z q i s = (x : Int) := by
  rcases cost_least z q i s hz hq with ⟨_, g⟩ | ⟨n, g, g1, g2⟩
  · exact absurd h (g _)
  · have := g2 _ h; have := hm _ g1; omega
theorem top_drop {z q : Nat → Nat} {i a x : Nat} (hz : ∀ j, j < i + 1 → 1 ≤ z j) (hq : ∀ j, j < i + 1 → a ≤ q j) (h : cost z q (i + 1) a = (x : Int)) (hn : z i ≤ a → ¬ (1 ≤ x ∧ Sol z (i + 1) (a - z i) (x - 1))) : topN z q i a = 0 ∧ cost z q i a = (x : Int) := by
  obtain ⟨t, h1, h2, h3, h4, h5⟩ := best_top z q i a (by omega)
  rw [h5]
  have ht := (cnt_iff (hz i (by omega))).1 h1
  by_cases e : t = 0
  · subst e
    rw [Nat.zero_mul, Nat.sub_zero] at h3
    exact ⟨rfl, by omega⟩
  · exfalso
    obtain ⟨y, hy⟩ := Int.eq_ofNat_of_zero_le h2
    have S := (cost_sol (fun j hj => hz j (by omega)) (fun j hj => by have := hq j (by omega); omega) hy).1
    have e1 : t * z i = (t - 1) * z i + z i := by rw [← Nat.succ_mul]; congr 1; omega
    refine hn (by omega) ⟨by omega, t - 1, by omega, by omega, ?_⟩
    rw [show a - z i - (t - 1) * z i = a - t * z i by omega, show x - 1 - (t - 1) = y by omega]
    exact S
/-- a coin of the greatest kind that can be in the fewest coins -/
theorem way_step (z q : Nat → Nat) (n k a x : Nat) (hk : k < n) (hz : ∀ j, j < n → 1 ≤ z j) (hq : ∀ j, j < n → a ≤ q j) (h1 : 1 ≤ x) (hx : cost z q n a = (x : Int)) (hka : z k ≤ a) (hS : Sol z n (a - z k) (x - 1)) (hmax : ∀ i, k < i → i < n → z i ≤ a → ¬ Sol z n (a - z i) (x - 1)) :
    ∀ j, (way z q n a).getD j 0 = (way z q n (a - z k)).getD j 0 + if j = k then 1 else 0 := by
  induction n with
  | zero => omega
  | succ n ih =>
    have X := cost_sol hz hq hx
    have hq2 : ∀ j, j < n + 1 → a - z k ≤ q j := fun j hj => by have := hq j hj; omega
    have hx2 : cost z q (n + 1) (a - z k) = ((x - 1 : Nat) : Int) := sol_cost hz hq2 hS fun x' h' => by
      have g := h'.add hk
      rw [show a - z k + z k = a by omega] at g
      have := X.2 _ g; omega
    by_cases e : k = n
    · subst e
      obtain ⟨t, t1, t2, t3, t4, t5⟩ := best_top z q k a (by omega)
      obtain ⟨u, u1, u2, u3, u4, u5⟩ := best_top z q k (a - z k) (by omega)
      have zk := hz k hk
      have qk := hq k hk
      have c1 := (cnt_iff zk).1 t1
      have c2 := (cnt_iff zk).1 u1
      have hu : (u + 1) * z k = u * z k + z k := Nat.succ_mul u (z k)
      have hle : u + 1 ≤ (u + 1) * z k := Nat.le_mul_of_pos_right _ zk
      have ea : a - (u + 1) * z k = a - z k - u * z k := by omega
      have tu : t = u + 1 := by
        rcases Nat.lt_trichotomy t (u + 1) with g | g | g
        · have := t4 (u + 1) g ((cnt_iff zk).2 ⟨by omega, by omega⟩) (by rw [ea]; exact u2)
          rw [ea] at this; omega
        · exact g
        · obtain ⟨t', rfl⟩ : ∃ t', t = t' + 1 := ⟨t - 1, by omega⟩
          have ht : (t' + 1) * z k = t' * z k + z k := Nat.succ_mul t' (z k)
          have eb : a - (t' + 1) * z k = a - z k - t' * z k := by omega
          have := u4 t' (by omega) ((cnt_iff zk).2 ⟨by have := hq2 k hk; have : t' ≤ t' * z k := Nat.le_mul_of_pos_right _ zk; omega, by omega⟩) (by rw [← eb]; exact t2)
          rw [← eb] at this; omega
      subst tu
      intro j
      rw [way_succ, way_succ, t5, u5, ← ea]
      have wl := way_len z q k (a - (u + 1) * z k)
      rcases Nat.lt_trichotomy j k with g | g | g
      · rw [gd_lo _ _ _ _ (by omega), gd_lo _ _ _ _ (by omega), if_neg (by omega)]; rfl
      · rw [gd_at _ _ _ _ (by omega), gd_at _ _ _ _ (by omega), if_pos g]
      · rw [gd_hi _ _ _ (by simp; omega), gd_hi _ _ _ (by simp; omega), if_neg (by omega)]
    · have d1 := top_drop hz hq hx fun hza g => hmax n (by omega) (by omega) hza g.2
      have d2 := top_drop hz hq2 hx2 fun hza g => hmax n (by omega) (by omega) (by omega) (by
        have := g.2.add (j := k) (by omega)
        have h0 := g.1
        rwa [show a - z k - z n + z k = a - z n by omega, show x - 1 - 1 + 1 = x - 1 by omega] at this)
      have ih' := ih (by omega) (fun j hj => hz j (by omega)) (fun j hj => hq j (by omega)) d1.2 (cost_sol (fun j hj => hz j (by omega)) (fun j hj => hq2 j (by omega)) d2.2).1 (fun i hi hin hza hs => hmax i hi (by omega) hza hs.up)
      intro j
      rw [way_succ, way_succ, d1.1, d2.1, Nat.zero_mul, Nat.sub_zero, Nat.sub_zero]
      have wl := way_len z q n a
      have wl2 := way_len z q n (a - z k)
      rcases Nat.lt_trichotomy j n with g | g | g
      · rw [gd_lo _ _ _ _ (by omega), gd_lo _ _ _ _ (by omega)]; exact ih' j
      · rw [gd_at _ _ _ _ (by omega), gd_at _ _ _ _ (by omega), if_neg (by omega)]
      · rw [gd_hi _ _ _ (by simp; omega), gd_hi _ _ _ (by simp; omega), if_neg (by omega)]
theorem way_zero (z q : Nat → Nat) (n : Nat) (hz : ∀ j, j < n → 1 ≤ z j) (j : Nat) : (way z q n 0).getD j 0 = 0 := by
  induction n with
  | zero => rfl
  | succ n ih =>
    have c0 : 0 ≤ cost z q (n + 1) 0 := by
      have key : ∀ i, cost z q i 0 = 0 := by
        intro i
        induction i with
        | zero => rfl
        | succ i ih2 =>
          have c1 : cnt (q i) (z i) 0 = 1 := by unfold cnt; simp
          show cTo (cost z q i) (z i) 0 (cnt (q i) (z i) 0) = 0
          rw [c1]
          simp [cTo, ih2]
      rw [key]; omega
    obtain ⟨t, t1, t2, t3, t4, t5⟩ := best_top z q n 0 c0
    have c1 : cnt (q n) (z n) 0 = 1 := by unfold cnt; simp
    have t0 : t = 0 := by omega
    rw [way_succ, t5, t0, Nat.zero_mul, Nat.sub_zero]
    have wl := way_len z q n 0
    rcases Nat.lt_trichotomy j n with g | g | g
    · rw [gd_lo _ _ _ _ (by omega)]; exact ih fun j hj => hz j (by omega)
    · rw [gd_at _ _ _ _ (by omega)]
    · rw [gd_hi _ _ _ (by simp; omega)]
/-- more coins in the stock are never worse -/
theorem cost_more (z q q' : Nat → Nat) (i s : Nat) (hz : ∀ j, j < i → 1 ≤ z j) (hq : ∀ j, j < i → q j ≤ q' j) (h : 0 ≤ cost z q i s) : 0 ≤ cost z q' i s ∧ cost z q' i s ≤ cost z q i s := by
  induction i generalizing s with
  | zero => exact ⟨h, Int.le_refl _⟩
  | succ i ih =>
    obtain ⟨t, t1, t2, t3, _, _⟩ := best_top z q i s h
    have zi := hz i (by omega)
    have c := (cnt_iff zi).1 t1
    have I := ih (s - t * z i) (fun j hj => hz j (by omega)) (fun j hj => hq j (by omega)) t2
    have c' : t < cnt (q' i) (z i) s := (cnt_iff zi).2 ⟨by have := hq i (by omega); omega, c.2⟩
    have e : cost z q' (i + 1) s = cTo (cost z q' i) (z i) s (cnt (q' i) (z i) s) := rfl
    rw [e]
    rcases cTo_spec (cost z q' i) (z i) s (cnt (q' i) (z i) s) with ⟨_, g⟩ | ⟨⟨j, _, j1, j2⟩, g⟩
    · have := g t c'; omega
    · have := g t c' I.1; omega
theorem way_at (z q : Nat → Nat) (i s j : Nat) (h : j < i) (hc : 0 ≤ cost z q i s) : (way z q i s).getD j 0 ≤ q j := by
  induction i generalizing s with
  | zero => omega
  | succ i ih =>
    obtain ⟨t, t1, t2, t3, _, t5⟩ := best_top z q i s hc
    rw [way_succ, t5]
    have wl := way_len z q i (s - t * z i)
    rcases Nat.lt_or_ge j i with g | g
    · rw [gd_lo _ _ _ _ (by omega)]; exact ih _ g t2
    · have hj : j = i := by omega
      subst hj
      rw [gd_at _ _ _ _ (by omega)]
      have := topN_le z q j s; omega
/-- the best way makes the amount -/
theorem way_sum (z q : Nat → Nat) (i s : Nat) (hz : ∀ j, j < i → 1 ≤ z j) (hc : 0 ≤ cost z q i s) : dotTo ((way z q i s).map Int.ofNat) ((List.range i).map fun j => ((z j : Nat) : Int)) i = (s : Int) ∧ suT ((way z q i s).map Int.ofNat) i = cost z q i s := ⟨by
  have key : ∀ (zs : List Int), (∀ j, j < i → zs[j]?.getD 0 = (z j : Int)) → dotTo ((way z q i s).map Int.ofNat) zs i = (s : Int) := by
    intro zs hzs
    have sub : ∀ (xs ys : List Int) k, k ≤ xs.length → dotTo (xs ++ ys) zs k = dotTo xs zs k := by
      intro xs ys k
      induction k with
      | zero => intro _; rfl
      | succ k ihk =>
        intro hk
        unfold dotTo
        rw [ihk (by omega), List.getElem?_append_left (by omega)]
    induction i generalizing s with
    | zero =>
      unfold cost at hc
      split at hc
      · rename_i h0; subst h0; rfl
      · omega
    | succ i ih =>
      obtain ⟨t, t1, t2, t3, _, t5⟩ := best_top z q i s hc
      have c := (cnt_iff (hz i (by omega))).1 t1
      have I := ih (s - t * z i) (fun j hj => hz j (by omega)) t2 (fun j hj => hzs j (by omega))
      have wl : ((way z q i (s - t * z i)).map Int.ofNat).length = i := by simp [way_len]
      rw [way_succ, t5, List.map_append]
      show dotTo _ zs i + _ * _ = _
      rw [sub _ _ _ (by omega), I, hzs i (by omega)]
      have e1 : ((way z q i (s - t * z i)).map Int.ofNat ++ List.map Int.ofNat [t])[i]?.getD 0 = (t : Int) := by
        rw [List.getElem?_append_right (by omega), wl]; simp
      rw [e1]
      have e2 : (t : Int) * (z i : Int) = ((t * z i : Nat) : Int) := (Int.natCast_mul ..).symm
      rw [e2]; omega
  exact key _ fun j hj => by rw [List.getElem?_map, List.getElem?_range hj]; rfl, suT_way z q i s hc⟩
end Go.Proofs.YtoiaggjjfahabaaDoor
