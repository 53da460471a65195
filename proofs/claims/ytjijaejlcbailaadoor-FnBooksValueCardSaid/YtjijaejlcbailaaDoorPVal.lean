/- Plain: the greatest value of bookings of which no two overlap: no set is worth more, one is worth as much. No condition but valid bookings. -/
import Derived.Test.YtjijaejlcbailaaDoorPSets
import Derived.Test.YtjijaejlcbailaaDoorBValue
namespace Go.Proofs.YtjijaejlcbailaaDoor
set_option linter.unusedVariables false
/-- the sum of values -/
def vsum : List Quad → Int
  | [] => 0
  | q :: qs => q.d + vsum qs
theorem vsum_append (xs ys : List Quad) : vsum (xs ++ ys) = vsum xs + vsum ys := by
  induction xs with
  | nil => simp [vsum]
  | cons x xs ih => simp only [List.cons_append, vsum, ih]; omega
/-- the best that ends up to the hour h -/
def vAt (qs : List Quad) (h : Nat) : Int := (vTab qs h)[h]?.getD 0
theorem vTab_pre (qs : List Quad) (h d i : Nat) (hi : i ≤ h) : (vTab qs (h + d))[i]?.getD 0 = (vTab qs h)[i]?.getD 0 := by
  induction d with
  | zero => rfl
  | succ d ih =>
    rw [← ih, ← Nat.add_assoc]
    conv => lhs; unfold vTab
    rw [List.getElem?_append_left (by rw [vTab_len]; omega)]
theorem vTab_at (qs : List Quad) (h i : Nat) (hi : i ≤ h) : (vTab qs h)[i]?.getD 0 = vAt qs i := by
  have := vTab_pre qs i (h - i) i (Nat.le_refl _)
  rwa [show i + (h - i) = h by omega] at this
theorem vAt_zero (qs : List Quad) : vAt qs 0 = 0 := rfl
theorem vAt_succ (qs : List Quad) (h : Nat) : vAt qs (h + 1) = vTo qs (vTab qs h) (h + 1) (vAt qs h) qs.length := by
  unfold vAt
  conv => lhs; unfold vTab
  rw [List.getElem?_append_right (by rw [vTab_len]; omega), vTab_len]
  simp
theorem vTo_spec (qs : List Quad) (tab : List Int) (h : Nat) (b : Int) (K : Nat) : b ≤ vTo qs tab h b K ∧ (∀ k, k < K → (qs.getD k q0).c = h → tab[(qs.getD k q0).b.toNat]?.getD 0 + (qs.getD k q0).d ≤ vTo qs tab h b K) ∧ (vTo qs tab h b K = b ∨ ∃ k, k < K ∧ (qs.getD k q0).c = h ∧ vTo qs tab h b K = tab[(qs.getD k q0).b.toNat]?.getD 0 + (qs.getD k q0).d) := by
  induction K with
  | zero => exact ⟨Int.le_refl _, fun k hk => absurd hk (by omega), .inl rfl⟩
  | succ K ih =>
    obtain ⟨i1, i2, i3⟩ := ih
    unfold vTo
    by_cases hc : (qs.getD K q0).c = h
    · rw [if_pos hc]
      refine ⟨by omega, fun k hk hkc => ?_, ?_⟩
      · by_cases e : k = K
        · subst e; omega
        · have := i2 k (by omega) hkc; omega
      · rcases Int.le_total (tab[(qs.getD K q0).b.toNat]?.getD 0 + (qs.getD K q0).d) (vTo qs tab h b K) with g | g
        · rw [Int.max_eq_left g]
          rcases i3 with e | ⟨k, a, c, d⟩
          · exact .inl e
          · exact .inr ⟨k, by omega, c, d⟩
        · rw [Int.max_eq_right g]; exact .inr ⟨K, by omega, hc, rfl⟩
    · rw [if_neg hc]
      refine ⟨i1, fun k hk hkc => ?_, ?_⟩
      · by_cases e : k = K
        · subst e; exact absurd hkc hc
        · exact i2 k (by omega) hkc
      · rcases i3 with e | ⟨k, a, c, d⟩
        · exact .inl e
        · exact .inr ⟨k, by omega, c, d⟩
theorem mem_getD {qs : List Quad} {q : Quad} (h : q ∈ qs) : ∃ k, k < qs.length ∧ qs.getD k q0 = q := by
  obtain ⟨i, hi, rfl⟩ := List.getElem_of_mem h
  exact ⟨i, hi, by rw [List.getD_eq_getElem?_getD, List.getElem?_eq_getElem hi]; rfl⟩
theorem getD_mem {qs : List Quad} {k : Nat} (h : k < qs.length) : qs.getD k q0 ∈ qs := by
  rw [List.getD_eq_getElem?_getD, List.getElem?_eq_getElem h]; exact List.getElem_mem h
/-- no two have an hour in common -/
def apart (xs : List Quad) : Prop := xs.Pairwise fun p q => p.c ≤ q.b ∨ q.c ≤ p.b
/-- no set of bookings that end up to the hour h and do not overlap is worth more -/
theorem val_le {qs : List Quad} (hv : ∀ q ∈ qs, 0 ≤ q.b ∧ q.b < q.c ∧ 0 ≤ q.d) (h : Nat) : ∀ xs : List Quad, (∀ q ∈ xs, q ∈ qs ∧ q.c ≤ h) → apart xs → vsum xs ≤ vAt qs h := by
  induction h using Nat.strongRecOn with
  | _ h ih =>
    rcases h with _ | h
    · intro xs hx _
      cases xs with
      | nil => simp [vsum, vAt_zero]
      | cons q xs =>
        have h1 := hx q (List.mem_cons_self ..)
        have := hv q h1.1
        omega
    · intro xs hx ha
      have hs := vTo_spec qs (vTab qs h) (h + 1) (vAt qs h) qs.length
      rw [← vAt_succ] at hs
      by_cases hq : ∃ q ∈ xs, q.c = ((h + 1 : Nat) : Int)
      · obtain ⟨q, hqx, hqc⟩ := hq
        obtain ⟨l, r, rfl⟩ := List.append_of_mem hqx
        have q1 := hx q hqx
        have q2 := hv q q1.1
        unfold apart at ha
        have hrest : ∀ p ∈ l ++ r, p ∈ qs ∧ p.c ≤ q.b := by
          intro p hp
          have hp' : p ∈ l ++ q :: r := by
            rcases List.mem_append.mp hp with g | g
            · exact List.mem_append_left _ g
            · exact List.mem_append_right _ (List.mem_cons_of_mem _ g)
          have p1 := hx p hp'
          have p2 := hv p p1.1
          refine ⟨p1.1, ?_⟩
          have hpq : p.c ≤ q.b ∨ q.c ≤ p.b := by
            rw [List.pairwise_append] at ha
            rcases List.mem_append.mp hp with g | g
            · exact ha.2.2 p g q (List.mem_cons_self ..)
            · have := (List.pairwise_cons.mp ha.2.1).1 p g; omega
          omega
        have hap : apart (l ++ r) := by
          unfold apart
          exact ha.sublist (List.Sublist.append (List.Sublist.refl l) (List.sublist_cons_self q r))
        have hi := ih q.b.toNat (by omega) (l ++ r) (fun p hp => ⟨(hrest p hp).1, by have := (hrest p hp).2; omega⟩) hap
        obtain ⟨k, hk, hkq⟩ := mem_getD q1.1
        have := hs.2.1 k hk (by rw [hkq, hqc])
        rw [hkq, vTab_at qs h q.b.toNat (by omega)] at this
        rw [vsum_append] at hi ⊢
        simp only [vsum]
        omega
      · have := ih h (by omega) xs (fun p hp => by
          have p1 := hx p hp
          refine ⟨p1.1, ?_⟩
          rcases Int.lt_or_le h p.c with g | g
          · exact absurd ⟨p, hp, by omega⟩ hq
          · exact g) ha
        omega
/-- of the first n bookings the values of those whose bits s has -/
def vbits (qs : List Quad) (s : Nat) : Nat → Int
  | 0 => 0
  | k + 1 => vbits qs s k + if s.testBit k then (qs.getD k q0).d else 0
theorem vsum_sub (qs : List Quad) (s k : Nat) : vsum (subTo qs s k) = vbits qs s k := by
  induction k with
  | zero => rfl
  | succ k ih =>
    unfold subTo vbits
    split
    · rw [vsum_append, ih]; simp [vsum]
    · rw [ih]; omega
theorem vbits_set (qs : List Quad) (s k n : Nat) (hs : s.testBit k = false) : vbits qs (s ||| 2 ^ k) n = vbits qs s n + if k < n then (qs.getD k q0).d else 0 := by
  induction n with
  | zero => simp [vbits]
  | succ n ih =>
    unfold vbits
    rw [ih, Nat.testBit_or, Nat.testBit_two_pow]
    by_cases e : k = n
    · subst e
      rw [hs]
      simp
    · have e2 : decide (k = n) = false := by simpa using e
      rw [e2, Bool.or_false]
      by_cases g : k < n
      · rw [if_pos g, if_pos (show k < n + 1 by omega)]; omega
      · rw [if_neg g, if_neg (show ¬ k < n + 1 by omega)]; omega
/-- a set of bookings that end up to the hour h, do not overlap, and are worth as much -/
theorem val_some {qs : List Quad} (hv : ∀ q ∈ qs, 0 ≤ q.b ∧ q.b < q.c ∧ 0 ≤ q.d) (h : Nat) : ∃ s, s < 2 ^ qs.length ∧ vbits qs s qs.length = vAt qs h ∧ (∀ k, k < qs.length → s.testBit k = true → (qs.getD k q0).c ≤ h) ∧ ∀ i j, i < qs.length → j < qs.length → i ≠ j → s.testBit i = true → s.testBit j = true → (qs.getD i q0).c ≤ (qs.getD j q0).b ∨ (qs.getD j q0).c ≤ (qs.getD i q0).b := by
  induction h using Nat.strongRecOn with
  | _ h ih =>
    rcases h with _ | h
    · refine ⟨0, Nat.two_pow_pos _, ?_, fun k _ hk => by simp at hk, fun i j _ _ _ hi => by simp at hi⟩
      rw [vAt_zero]
      have key : ∀ n, vbits qs 0 n = 0 := fun n => by induction n with | zero => rfl | succ n ih => unfold vbits; rw [ih]; simp
      exact key _
    · have hs := vTo_spec qs (vTab qs h) (h + 1) (vAt qs h) qs.length
      rw [← vAt_succ] at hs
      rcases hs.2.2 with e | ⟨k, hk, hc, e⟩
      · obtain ⟨s, s1, s2, s3, s4⟩ := ih h (by omega)
        exact ⟨s, s1, by rw [s2, e], fun k hk hb => by have := s3 k hk hb; omega, s4⟩
      · have q2 := hv _ (getD_mem hk)
        rw [vTab_at qs h _ (by omega)] at e
        obtain ⟨s, s1, s2, s3, s4⟩ := ih (qs.getD k q0).b.toNat (by omega)
        have hkb : s.testBit k = false := by
          cases hb : s.testBit k with
          | false => rfl
          | true => have := s3 k hk hb; omega
        have hor : ∀ i, (s ||| 2 ^ k).testBit i = true → s.testBit i = true ∨ i = k := fun i hi => by
          rw [Nat.testBit_or, Nat.testBit_two_pow, Bool.or_eq_true, decide_eq_true_iff] at hi
          exact hi.imp id fun h => h.symm
        refine ⟨s ||| 2 ^ k, Nat.or_lt_two_pow s1 (Nat.pow_lt_pow_right (by omega) hk), ?_, fun i hi hb => ?_, fun i j hi hj hij hbi hbj => ?_⟩
        · rw [vbits_set qs s k _ hkb, if_pos hk, s2, e]
        · rcases hor i hb with g | rfl
          · have := s3 i hi g; omega
          · omega
        · rcases hor i hbi with g | rfl <;> rcases hor j hbj with g' | rfl
          · exact s4 i j hi hj hij g g'
          · have := s3 i hi g; omega
          · have := s3 j hj g'; omega
          · exact absurd rfl hij
theorem apart_bm {xs : List Quad} (hv : ∀ q ∈ xs, 0 ≤ q.b ∧ q.b < q.c ∧ q.c ≤ 30) (h : bmTo xs 30 ≤ 1) : apart xs := by
  have hb := (bmTo_spec xs 30).1
  have key : ∀ ys : List Quad, ys.Sublist xs → apart ys := by
    intro ys
    induction ys with
    | nil => intro _; exact List.Pairwise.nil
    | cons q ys ih =>
      intro hs
      refine List.pairwise_cons.mpr ⟨fun p hp => ?_, ih ((List.sublist_cons_self q ys).trans hs)⟩
      have h2 : [q, p].Sublist xs := (List.Sublist.cons_cons q (List.singleton_sublist.mpr hp)).trans hs
      have vq := hv q (hs.subset (List.mem_cons_self ..))
      have vp := hv p (hs.subset (List.mem_cons_of_mem _ hp))
      refine Classical.byContradiction fun hn => ?_
      have h3 := baV_sub h2 (max q.b p.b)
      have h4 := hb (max q.b p.b).toNat (by omega)
      rw [show (((max q.b p.b).toNat : Nat) : Int) = max q.b p.b by omega] at h4
      rw [baV_cons, baV_cons, baV_nil, if_pos (show atH q (max q.b p.b) from ⟨by omega, by omega⟩), if_pos (show atH p (max q.b p.b) from ⟨by omega, by omega⟩)] at h3
      omega
  exact key xs (List.Sublist.refl xs)
theorem sub_hit (qs : List Quad) (s : Nat) (t : Int) (k : Nat) : 0 ≤ baV (subTo qs s k) t ∧ (0 < baV (subTo qs s k) t → ∃ i, i < k ∧ s.testBit i = true ∧ atH (qs.getD i q0) t) := by
  induction k with
  | zero => exact ⟨by simp [subTo, baV_nil], fun h => by simp [subTo, baV_nil] at h⟩
  | succ k ih =>
    have e := subTo_at qs s t k
    split at e
    · rename_i g
      exact ⟨by omega, fun _ => ⟨k, by omega, g.1, g.2⟩⟩
    · refine ⟨by omega, fun h => ?_⟩
      obtain ⟨i, a, b, c⟩ := ih.2 (by omega)
      exact ⟨i, by omega, b, c⟩
theorem sub_one (qs : List Quad) (s n : Nat) (hs : ∀ i j, i < n → j < n → i ≠ j → s.testBit i = true → s.testBit j = true → (qs.getD i q0).c ≤ (qs.getD j q0).b ∨ (qs.getD j q0).c ≤ (qs.getD i q0).b) (t : Int) (k : Nat) (hk : k ≤ n) : baV (subTo qs s k) t ≤ 1 := by
  induction k with
  | zero => simp [subTo, baV_nil]
  | succ k ih =>
    have ih := ih (by omega)
    have e := subTo_at qs s t k
    split at e
    · rename_i g
      rcases Int.lt_or_le 0 (baV (subTo qs s k) t) with h | h
      · obtain ⟨i, a, b, c⟩ := (sub_hit qs s t k).2 h
        have := hs i k (by omega) (by omega) (by omega) b g.1
        unfold atH at c g
        omega
      · omega
    · omega
/-- no set is worth more -/
theorem value_le {qs : List Quad} (hv : bsV qs = true) (s : Nat) (hb : bmV (subV qs s) ≤ 1) : vsum (subV qs s) ≤ vEnd qs := by
  have hm := bs_mem hv
  have hs := subV_sub qs s
  unfold bmV at hb
  rw [if_pos (bsV_sub hs hv)] at hb
  refine val_le (fun q hq => by have := hm.2 q hq; omega) 30 (subV qs s) (fun q hq => ⟨hs.subset hq, ?_⟩) (apart_bm (fun q hq => by have := hm.2 q (hs.subset hq); omega) hb)
  have := hm.2 q (hs.subset hq); omega
/-- one is worth as much -/
theorem value_some {qs : List Quad} (hv : bsV qs = true) : ∃ s, s < 2 ^ qs.length ∧ bmV (subV qs s) ≤ 1 ∧ vsum (subV qs s) = vEnd qs := by
  have hm := bs_mem hv
  obtain ⟨s, s1, s2, s3, s4⟩ := val_some (qs := qs) (fun q hq => by have := hm.2 q hq; omega) 30
  refine ⟨s, s1, ?_, ?_⟩
  · unfold bmV
    rw [if_pos (bsV_sub (subV_sub qs s) hv)]
    exact bmTo_le (by omega) fun i _ => sub_one qs s qs.length s4 i qs.length (Nat.le_refl _)
  · unfold subV
    rw [vsum_sub, s2]; rfl
/-- some set before s is of bookings that do not overlap and worth x -/
def svTo (qs : List Quad) (x : Int) : Nat → Bool
  | 0 => false
  | s + 1 => svTo qs x s || (decide (bmV (subV qs s) ≤ 1) && decide (vsum (subV qs s) = x))
theorem svTo_end {qs : List Quad} (hv : bsV qs = true) : svTo qs (vEnd qs) (2 ^ qs.length) = true := by
  obtain ⟨s, s1, s2, s3⟩ := value_some hv
  have key : ∀ S, s < S → svTo qs (vEnd qs) S = true := by
    intro S
    induction S with
    | zero => intro h; omega
    | succ S ih =>
      intro h
      unfold svTo
      rw [Bool.or_eq_true]
      by_cases e : s = S
      · subst e; exact .inr (by rw [decide_eq_true s2, decide_eq_true s3]; rfl)
      · exact .inl (ih (by omega))
  exact key _ s1
end Go.Proofs.YtjijaejlcbailaaDoor
