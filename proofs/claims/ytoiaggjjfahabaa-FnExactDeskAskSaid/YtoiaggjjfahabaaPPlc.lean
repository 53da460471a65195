/- Plain: the places of bookings: what BookPlaces computes, and that it serves. No program. -/
import Derived.Test.YtoiaggjjfahabaaPSub
namespace Go.Proofs.Ytoiaggjjfahabaa
set_option linter.unusedVariables false
/-- a list without repetitions is no longer than one that holds its members -/
theorem nodup_le {α : Type} [DecidableEq α] : ∀ (l m : List α), l.Nodup → (∀ x, x ∈ l → x ∈ m) → l.length ≤ m.length
  | [], m, _, _ => Nat.zero_le _
  | a :: l, m, hn, hs => by
    obtain ⟨h1, h2⟩ := List.nodup_cons.1 hn
    have ha : a ∈ m := hs a (List.mem_cons_self ..)
    have ih := nodup_le l (m.erase a) h2 fun x hx => by
      have hxm := hs x (List.mem_cons_of_mem _ hx)
      have hne : x ≠ a := fun e => h1 (e ▸ hx)
      exact (List.mem_erase_of_ne hne).2 hxm
    rw [List.length_erase_of_mem ha] at ih
    have : 0 < m.length := List.length_pos_of_mem ha
    simp only [List.length_cons]
    omega
/-- two lists with the same members, both ascending by an order, are one -/
theorem asc_uniq {r : Nat → Nat → Prop} (hi : ∀ a, ¬ r a a) (ha : ∀ a b, r a b → ¬ r b a) : ∀ (l m : List Nat), l.Pairwise r → m.Pairwise r → (∀ x, x ∈ l ↔ x ∈ m) → l = m
  | [], [], _, _, _ => rfl
  | [], b :: m, _, _, h => absurd ((h b).2 (List.mem_cons_self ..)) (by simp)
  | a :: l, [], _, _, h => absurd ((h a).1 (List.mem_cons_self ..)) (by simp)
  | a :: l, b :: m, hl, hm, h => by
    obtain ⟨l1, l2⟩ := List.pairwise_cons.1 hl
    obtain ⟨m1, m2⟩ := List.pairwise_cons.1 hm
    have e : a = b := by
      rcases List.mem_cons.1 ((h a).1 (List.mem_cons_self ..)) with e | e
      · exact e
      · rcases List.mem_cons.1 ((h b).2 (List.mem_cons_self ..)) with g | g
        · exact g.symm
        · exact absurd (m1 a e) (ha _ _ (l1 b g))
    subst e
    rw [asc_uniq hi ha l m l2 m2 fun x => ?_]
    have := h x
    rw [List.mem_cons, List.mem_cons] at this
    constructor
    · intro hx
      rcases this.1 (.inr hx) with e | e
      · subst e; exact absurd (l1 x hx) (hi x)
      · exact e
    · intro hx
      rcases this.2 (.inr hx) with e | e
      · subst e; exact absurd (m1 x hx) (hi x)
      · exact e
/-- the indices of those that begin at an hour -/
def ofK (qs : List Quad) (h : Nat) : Nat → List Nat
  | 0 => []
  | k + 1 => if (qs.getD k q0).b = (h : Int) then ofK qs h k ++ [k] else ofK qs h k
def ofH (qs : List Quad) : Nat → List Nat
  | 0 => []
  | h + 1 => ofH qs h ++ ofK qs h qs.length
/-- the indices by ascending beginnings -/
def ordF (qs : List Quad) : List Nat := ofH qs 31
/-- i comes before j -/
def bef (qs : List Quad) (i j : Nat) : Prop := (qs.getD i q0).b < (qs.getD j q0).b ∨ ((qs.getD i q0).b = (qs.getD j q0).b ∧ i < j)
theorem ofK_mem (qs : List Quad) (h k i : Nat) : i ∈ ofK qs h k ↔ i < k ∧ (qs.getD i q0).b = (h : Int) := by
  induction k with
  | zero => simp [ofK]
  | succ k ih =>
    unfold ofK
    split
    · rename_i e
      rw [List.mem_append, ih, List.mem_singleton]
      constructor
      · rintro (⟨a, b⟩ | rfl)
        · exact ⟨by omega, b⟩
        · exact ⟨by omega, e⟩
      · rintro ⟨a, b⟩
        by_cases g : i = k
        · exact .inr g
        · exact .inl ⟨by omega, b⟩
    · rename_i e
      rw [ih]
      constructor
      · rintro ⟨a, b⟩; exact ⟨by omega, b⟩
      · rintro ⟨a, b⟩
        by_cases g : i = k
        · subst g; exact absurd b e
        · exact ⟨by omega, b⟩
theorem ofK_asc (qs : List Quad) (h k : Nat) : (ofK qs h k).Pairwise (bef qs) := by
  induction k with
  | zero => exact List.Pairwise.nil
  | succ k ih =>
    unfold ofK
    split
    · rename_i e
      rw [List.pairwise_append]
      refine ⟨ih, List.pairwise_singleton _ _, fun a ha b hb => ?_⟩
      rw [List.mem_singleton] at hb
      subst hb
      have := (ofK_mem qs h b a).1 ha
      exact .inr ⟨by rw [this.2, e], this.1⟩
    · exact ih
theorem ofH_mem (qs : List Quad) (h i : Nat) : i ∈ ofH qs h ↔ i < qs.length ∧ 0 ≤ (qs.getD i q0).b ∧ (qs.getD i q0).b < (h : Int) := by
  induction h with
  | zero => unfold ofH; exact ⟨fun h => (by cases h), fun h => absurd h.2 (by omega)⟩
  | succ h ih =>
    unfold ofH
    rw [List.mem_append, ih, ofK_mem]
    omega
theorem ofH_asc (qs : List Quad) (h : Nat) : (ofH qs h).Pairwise (bef qs) := by
  induction h with
  | zero => exact List.Pairwise.nil
  | succ h ih =>
    unfold ofH
    rw [List.pairwise_append]
    refine ⟨ih, ofK_asc _ _ _, fun a ha b hb => ?_⟩
    have h1 := (ofH_mem qs h a).1 ha
    have h2 := (ofK_mem qs h qs.length b).1 hb
    exact .inl (by omega)
theorem bef_irr (qs : List Quad) (a : Nat) : ¬ bef qs a a := by unfold bef; omega
theorem bef_asym (qs : List Quad) (a b : Nat) (h : bef qs a b) : ¬ bef qs b a := by unfold bef at *; omega
theorem bef_all (qs : List Quad) (a b : Nat) (h : a ≠ b) : bef qs a b ∨ bef qs b a := by unfold bef; omega
theorem bef_trans (qs : List Quad) (a b c : Nat) (h : bef qs a b) (h' : bef qs b c) : bef qs a c := by unfold bef at *; omega
theorem asc_nodup {qs : List Quad} {l : List Nat} (h : l.Pairwise (bef qs)) : l.Nodup := h.imp fun {a b} hab (e : a = b) => by subst e; exact bef_irr qs a hab
theorem bs_from {qs : List Quad} (h : bsV qs = true) : qs.length ≤ 7 ∧ ∀ i, i < qs.length → 0 ≤ (qs.getD i q0).b ∧ (qs.getD i q0).b < (qs.getD i q0).c ∧ (qs.getD i q0).c ≤ 30 := by
  have := bs_mem h
  refine ⟨this.1, fun i hi => ?_⟩
  have hm : qs.getD i q0 ∈ qs := by rw [List.getD_eq_getElem?_getD, List.getElem?_eq_getElem hi]; exact List.getElem_mem hi
  have := this.2 _ hm
  omega
theorem ord_mem {qs : List Quad} (h : bsV qs = true) (i : Nat) : i ∈ ordF qs ↔ i < qs.length := by
  unfold ordF
  rw [ofH_mem]
  constructor
  · intro g; exact g.1
  · intro g
    have := (bs_from h).2 i g
    exact ⟨g, by omega, by omega⟩
theorem ord_len {qs : List Quad} (h : bsV qs = true) : (ordF qs).length = qs.length := by
  have h1 := nodup_le (ordF qs) (List.range qs.length) (asc_nodup (ofH_asc qs 31)) fun x hx => List.mem_range.2 ((ord_mem h x).1 hx)
  have h2 := nodup_le (List.range qs.length) (ordF qs) List.nodup_range fun x hx => (ord_mem h x).2 (List.mem_range.1 hx)
  rw [List.length_range] at h1 h2
  omega
/-- what any list of the indices is that ascends -/
theorem ord_is {qs : List Quad} (h : bsV qs = true) {l : List Nat} (hl : l.Pairwise (bef qs)) (hm : ∀ x, x ∈ l ↔ x < qs.length) : l = ordF qs :=
  asc_uniq (bef_irr qs) (bef_asym qs) l (ordF qs) hl (ofH_asc qs 31) fun x => by rw [hm, ord_mem h]
def ovq (x y : Quad) : Bool := ovl x.b x.c y.b y.c
theorem ovq_iff (x y : Quad) : ovq x y = true ↔ x.b < y.c ∧ y.b < x.c := by unfold ovq ovl; rw [decide_eq_true_iff]
theorem ovq_comm (x y : Quad) : ovq x y = ovq y x := by rw [Bool.eq_iff_iff, ovq_iff, ovq_iff]; exact And.comm
/-- a place is used by one of the first k that overlaps booking i -/
def usB (qs : List Quad) (pl : List Int) (i p : Nat) : Nat → Bool
  | 0 => false
  | k + 1 => usB qs pl i p k || (decide (pl.getD k 0 = (p : Int)) && ovq (qs.getD i q0) (qs.getD k q0))
theorem usB_iff (qs : List Quad) (pl : List Int) (i p k : Nat) : usB qs pl i p k = true ↔ ∃ j, j < k ∧ pl.getD j 0 = (p : Int) ∧ ovq (qs.getD i q0) (qs.getD j q0) = true := by
  induction k with
  | zero => simp [usB]
  | succ k ih =>
    unfold usB
    rw [Bool.or_eq_true, ih, Bool.and_eq_true, decide_eq_true_iff]
    constructor
    · rintro (⟨j, h1, h2, h3⟩ | ⟨h2, h3⟩)
      · exact ⟨j, by omega, h2, h3⟩
      · exact ⟨k, by omega, h2, h3⟩
    · rintro ⟨j, h1, h2, h3⟩
      by_cases e : j = k
      · subst e; exact .inr ⟨h2, h3⟩
      · exact .inl ⟨j, by omega, h2, h3⟩
/-- the first of n numbers that is not in u; n if all are -/
def frTo (u : Nat → Bool) : Nat → Nat
  | 0 => 0
  | n + 1 => if u (frTo u n) = true ∧ frTo u n = n then n + 1 else frTo u n
theorem frTo_spec (u : Nat → Bool) (n : Nat) : frTo u n ≤ n ∧ (∀ q, q < frTo u n → u q = true) ∧ (frTo u n < n → u (frTo u n) = false) := by
  induction n with
  | zero => exact ⟨Nat.le_refl _, fun q h => absurd h (by unfold frTo; omega), fun h => absurd h (by unfold frTo; omega)⟩
  | succ n ih =>
    obtain ⟨h1, h2, h3⟩ := ih
    unfold frTo
    by_cases g : u (frTo u n) = true ∧ frTo u n = n
    · rw [if_pos g]
      refine ⟨Nat.le_refl _, fun q hq => ?_, fun h => by omega⟩
      by_cases e : q = n
      · subst e; rw [← g.2]; exact g.1
      · exact h2 q (by omega)
    · rw [if_neg g]
      refine ⟨by omega, h2, fun h => ?_⟩
      by_cases e : frTo u n = n
      · cases hu : u (frTo u n)
        · rfl
        · exact absurd ⟨hu, e⟩ g
      · exact h3 (by omega)
theorem frTo_is {u : Nat → Bool} {n p : Nat} (hp : p ≤ n) (h : ∀ q, q < p → u q = true) (h' : u p = false) : frTo u n = p := by
  obtain ⟨h1, h2, h3⟩ := frTo_spec u n
  rcases Nat.lt_trichotomy (frTo u n) p with g | g | g
  · have := h _ g; rw [h3 (by omega)] at this; cases this
  · exact g
  · have := h2 _ g; rw [h'] at this; cases this
/-- the least place that is free for booking i -/
def freeP (qs : List Quad) (pl : List Int) (i : Nat) : Nat := frTo (fun p => usB qs pl i p qs.length) 7
/-- the places of the first m of an order -/
def plTo (qs : List Quad) (o : List Nat) : Nat → List Int
  | 0 => List.replicate qs.length (-1)
  | m + 1 => (plTo qs o m).set (o.getD m 0) (freeP qs (plTo qs o m) (o.getD m 0) : Int)
def plV (qs : List Quad) : List Int := if bsV qs = true then plTo qs (ordF qs) qs.length else []
theorem pl_len (qs : List Quad) (o : List Nat) (m : Nat) : (plTo qs o m).length = qs.length := by
  induction m with
  | zero => simp [plTo]
  | succ m ih => unfold plTo; rw [List.length_set, ih]
theorem pset (l : List Int) (i j : Nat) (v : Int) : (l.set i v).getD j 0 = if i = j ∧ i < l.length then v else l.getD j 0 := by
  rw [List.getD_eq_getElem?_getD, List.getElem?_set, List.getD_eq_getElem?_getD]
  by_cases h : i = j
  · subst h
    by_cases g : i < l.length
    · rw [if_pos rfl, if_pos g, if_pos ⟨rfl, g⟩]; rfl
    · rw [if_pos rfl, if_neg g, if_neg (fun e => g e.2), List.getElem?_eq_none (by omega)]
  · rw [if_neg h, if_neg fun e => h e.1]
/-- the values that distinct used places come from: no more than there are others -/
theorem used_few {qs : List Quad} {pl : List Int} {i f : Nat} (hl : pl.length = qs.length) (hi : i < qs.length) (hneg : pl.getD i 0 = -1) (h : ∀ q, q < f → usB qs pl i q qs.length = true) : f + 1 ≤ qs.length := by
  have := nodup_le ((-1 : Int) :: (List.range f).map (fun q : Nat => (q : Int))) pl (by
    rw [List.nodup_cons]
    refine ⟨fun hm => ?_, ?_⟩
    · obtain ⟨q, _, e⟩ := List.mem_map.1 hm; omega
    · exact List.Pairwise.map _ (fun a b hab e => hab (by omega)) List.nodup_range) fun x hx => by
    rcases List.mem_cons.1 hx with e | e
    · subst e; rw [← hneg, List.getD_eq_getElem?_getD, List.getElem?_eq_getElem (by omega)]; exact List.getElem_mem _
    · obtain ⟨q, hq, rfl⟩ := List.mem_map.1 e
      obtain ⟨j, j1, j2, _⟩ := (usB_iff qs pl i q qs.length).1 (h q (List.mem_range.1 hq))
      rw [← j2, List.getD_eq_getElem?_getD, List.getElem?_eq_getElem (by omega)]; exact List.getElem_mem _
  rw [List.length_cons, List.length_map, List.length_range, hl] at this
  exact this
theorem free_few {qs : List Quad} {pl : List Int} {i : Nat} (h7 : qs.length ≤ 7) (hl : pl.length = qs.length) (hi : i < qs.length) (hneg : pl.getD i 0 = -1) :
    freeP qs pl i < qs.length ∧ (∀ q, q < freeP qs pl i → usB qs pl i q qs.length = true) ∧ usB qs pl i (freeP qs pl i) qs.length = false := by
  obtain ⟨h1, h2, h3⟩ := frTo_spec (fun p => usB qs pl i p qs.length) 7
  have := used_few hl hi hneg h2
  exact ⟨by unfold freeP; omega, h2, h3 (by omega)⟩
theorem ba_ge (qs : List Quad) (h : Int) (l : List Nat) (hn : l.Nodup) (k : Nat) (hl : ∀ j, j ∈ l → j < k ∧ atH (qs.getD j q0) h) : (l.length : Int) ≤ baTo qs h k := by
  have e : baTo qs h k = (((List.range k).filter fun j => decide (atH (qs.getD j q0) h)).length : Int) := by
    clear hl
    induction k with
    | zero => rfl
    | succ k ih =>
      unfold baTo
      rw [List.range_succ, List.filter_append, List.length_append, ih]
      by_cases g : atH (qs.getD k q0) h
      · rw [if_pos g, List.filter_cons_of_pos (by simpa using g)]; simp
      · rw [if_neg g, List.filter_cons_of_neg (by simpa using g)]; simp
  rw [e]
  have := nodup_le l ((List.range k).filter fun j => decide (atH (qs.getD j q0) h)) hn fun x hx => by
    have := hl x hx
    rw [List.mem_filter, List.mem_range, decide_eq_true_iff]; exact this
  omega
/-- those that have an hour, as a list -/
theorem ba_list (qs : List Quad) (h : Int) (k : Nat) : ∃ l : List Nat, l.Nodup ∧ (l.length : Int) = baTo qs h k ∧ ∀ j, j ∈ l → j < k ∧ atH (qs.getD j q0) h := by
  induction k with
  | zero => exact ⟨[], List.nodup_nil, rfl, fun j hj => by cases hj⟩
  | succ k ih =>
    obtain ⟨l, h1, h2, h3⟩ := ih
    unfold baTo
    by_cases g : atH (qs.getD k q0) h
    · refine ⟨k :: l, List.nodup_cons.2 ⟨fun hk => by have := (h3 k hk).1; omega, h1⟩, by rw [if_pos g, List.length_cons, ← h2]; omega, fun j hj => ?_⟩
      rcases List.mem_cons.1 hj with e | e
      · subst e; exact ⟨by omega, g⟩
      · exact ⟨by have := (h3 j e).1; omega, (h3 j e).2⟩
    · exact ⟨l, h1, by rw [if_neg g, h2]; omega, fun j hj => ⟨by have := (h3 j hj).1; omega, (h3 j hj).2⟩⟩
/-- index i is among the first m of an order -/
def doneB (o : List Nat) (m i : Nat) : Prop := ∃ t, t < m ∧ t < o.length ∧ o.getD t 0 = i
structure Plc (qs : List Quad) (o : List Nat) (m : Nat) : Prop where
  no : ∀ i, i < qs.length → ¬ doneB o m i → (plTo qs o m).getD i 0 = -1
  yes : ∀ i, i < qs.length → doneB o m i → 0 ≤ (plTo qs o m).getD i 0 ∧ (plTo qs o m).getD i 0 + 1 ≤ bmTo qs 30
  two : ∀ i j, i < qs.length → j < qs.length → i ≠ j → doneB o m i → doneB o m j → ovq (qs.getD i q0) (qs.getD j q0) = true → (plTo qs o m).getD i 0 ≠ (plTo qs o m).getD j 0
theorem plc_all {qs : List Quad} (hv : bsV qs = true) (m : Nat) (hm : m ≤ qs.length) : Plc qs (ordF qs) m := by
  have hol := ord_len hv
  have hasc := ofH_asc qs 31
  have hmem := ord_mem hv
  obtain ⟨o, ho⟩ : ∃ o, ordF qs = o := ⟨_, rfl⟩
  have hasc' : o.Pairwise (bef qs) := by rw [← ho]; exact hasc
  rw [ho] at hol hmem ⊢
  clear hasc ho
  obtain ⟨h7, hfr⟩ := bs_from hv
  have hat : ∀ t, t < o.length → o.getD t 0 < qs.length := fun t ht => by
    rw [← hmem, List.getD_eq_getElem?_getD, List.getElem?_eq_getElem ht]; exact List.getElem_mem _
  have hlt : ∀ s t, s < t → t < o.length → bef qs (o.getD s 0) (o.getD t 0) := fun s t hst ht => by
    have := List.pairwise_iff_getElem.1 hasc' s t (by omega) ht hst
    rw [List.getD_eq_getElem?_getD, List.getElem?_eq_getElem (by omega), List.getD_eq_getElem?_getD, List.getElem?_eq_getElem ht]
    exact this
  induction m with
  | zero =>
    refine ⟨fun i hi _ => ?_, fun i hi h => ?_, fun i j _ _ _ h => ?_⟩
    · unfold plTo; rw [List.getD_eq_getElem?_getD, List.getElem?_replicate, if_pos hi]; rfl
    · obtain ⟨t, ht, _⟩ := h; omega
    · obtain ⟨t, ht, _⟩ := h; omega
  | succ m ih =>
    have I := ih (by omega)
    obtain ⟨x, hx⟩ : ∃ x, o.getD m 0 = x := ⟨_, rfl⟩
    have hxl : x < qs.length := by rw [← hx]; exact hat m (by omega)
    have hnd : ¬ doneB o m x := by
      rintro ⟨t, t1, t2, t3⟩
      have := hlt t m t1 (by omega)
      rw [t3, hx] at this
      exact bef_irr qs x this
    have hneg := I.no x hxl hnd
    have hpl := pl_len qs o m
    obtain ⟨f1, f2, f3⟩ := free_few h7 hpl hxl hneg
    obtain ⟨f, hf⟩ : ∃ f, freeP qs (plTo qs o m) x = f := ⟨_, rfl⟩
    rw [hf] at f1 f2 f3
    have hst : ∀ j, (plTo qs o (m + 1)).getD j 0 = if j = x then (f : Int) else (plTo qs o m).getD j 0 := fun j => by
      show ((plTo qs o m).set (o.getD m 0) _).getD j 0 = _
      rw [pset, hx, hf, hpl]
      by_cases e : j = x
      · subst e; rw [if_pos ⟨rfl, hxl⟩, if_pos rfl]
      · rw [if_neg (fun g => e g.1.symm), if_neg e]
    have hd : ∀ j, doneB o (m + 1) j ↔ doneB o m j ∨ j = x := fun j => by
      constructor
      · rintro ⟨t, t1, t2, t3⟩
        by_cases e : t = m
        · subst e; exact .inr (by rw [← t3, hx])
        · exact .inl ⟨t, by omega, t2, t3⟩
      · rintro (⟨t, t1, t2, t3⟩ | e)
        · exact ⟨t, by omega, t2, t3⟩
        · exact ⟨m, by omega, by omega, by rw [hx, e]⟩
    have far : ∀ j, j < qs.length → j ≠ x → doneB o m j → ovq (qs.getD x q0) (qs.getD j q0) = true → (plTo qs o m).getD j 0 ≠ (f : Int) := fun j hj hjx hdj hov e => by
      have := (usB_iff qs (plTo qs o m) x f qs.length).2 ⟨j, hj, e, hov⟩
      rw [f3] at this; cases this
    refine ⟨fun i hi h => ?_, fun i hi h => ?_, fun i j hi hj hij h1 h2 hov => ?_⟩
    · rw [hst, if_neg (fun e => h ((hd i).2 (.inr e)))]
      exact I.no i hi fun g => h ((hd i).2 (.inl g))
    · rw [hst]
      by_cases e : i = x
      · rw [if_pos e]
        refine ⟨by omega, ?_⟩
        have key : ∀ n, n ≤ f → ∃ l : List Nat, l.Nodup ∧ l.length = n ∧ ∀ j, j ∈ l → j < qs.length ∧ j ≠ x ∧ atH (qs.getD j q0) (qs.getD x q0).b ∧ 0 ≤ (plTo qs o m).getD j 0 ∧ (plTo qs o m).getD j 0 < (n : Int) := by
          intro n
          induction n with
          | zero => intro _; exact ⟨[], List.nodup_nil, rfl, fun j hj => by cases hj⟩
          | succ n ihn =>
            intro hn
            obtain ⟨l, l1, l2, l3⟩ := ihn (by omega)
            obtain ⟨j, j1, j2, j3⟩ := (usB_iff qs (plTo qs o m) x n qs.length).1 (f2 n (by omega))
            have hjd : doneB o m j := Classical.byContradiction fun g => by have := I.no j j1 g; omega
            have hjx : j ≠ x := fun g => hnd (g ▸ hjd)
            have hjb : bef qs j x := by
              obtain ⟨t, t1, t2, t3⟩ := hjd
              have := hlt t m t1 (by omega)
              rw [t3, hx] at this; exact this
            have hov := (ovq_iff _ _).1 j3
            refine ⟨j :: l, List.nodup_cons.2 ⟨fun g => ?_, l1⟩, by rw [List.length_cons, l2], fun i hi => ?_⟩
            · have := (l3 j g).2.2.2; omega
            · rcases List.mem_cons.1 hi with e | e
              · subst e
                refine ⟨j1, hjx, ⟨?_, hov.1⟩, by omega, by omega⟩
                unfold bef at hjb; omega
              · have := l3 i e
                exact ⟨this.1, this.2.1, this.2.2.1, this.2.2.2.1, by omega⟩
        obtain ⟨l, l1, l2, l3⟩ := key f (Nat.le_refl _)
        have hxa := hfr x hxl
        have hge := ba_ge qs (qs.getD x q0).b (x :: l) (List.nodup_cons.2 ⟨fun g => (l3 x g).2.1 rfl, l1⟩) qs.length fun j hj => by
          rcases List.mem_cons.1 hj with e | e
          · subst e; exact ⟨hxl, by omega, by omega⟩
          · exact ⟨(l3 j e).1, (l3 j e).2.2.1⟩
        rw [List.length_cons, l2] at hge
        have hbm := (bmTo_spec qs 30).1 (qs.getD x q0).b.toNat (by omega)
        rw [show (((qs.getD x q0).b.toNat : Nat) : Int) = (qs.getD x q0).b by omega] at hbm
        unfold baV at hbm
        omega
      · rw [if_neg e]
        exact I.yes i hi (((hd i).1 h).resolve_right e)
    · rw [hst, hst]
      by_cases e1 : i = x
      · subst e1
        rw [if_pos rfl, if_neg (fun e => hij e.symm)]
        exact fun e => far j hj (fun e => hij e.symm) (((hd j).1 h2).resolve_right fun e => hij e.symm) hov e.symm
      · rw [if_neg e1]
        by_cases e2 : j = x
        · subst e2
          rw [if_pos rfl]
          exact fun e => far i hi e1 (((hd i).1 h1).resolve_right e1) (by rw [ovq_comm]; exact hov) e
        · rw [if_neg e2]
          exact I.two i j hi hj hij (((hd i).1 h1).resolve_right e1) (((hd j).1 h2).resolve_right e2) hov
/-- the next booking of the order has no place yet -/
theorem plc_next {qs : List Quad} (hv : bsV qs = true) {m : Nat} (hm : m < qs.length) : (ordF qs).getD m 0 < qs.length ∧ (plTo qs (ordF qs) m).getD ((ordF qs).getD m 0) 0 = -1 := by
  have hol := ord_len hv
  have hasc := ofH_asc qs 31
  have hx : (ordF qs).getD m 0 < qs.length := by
    rw [← ord_mem hv, List.getD_eq_getElem?_getD, List.getElem?_eq_getElem (by omega)]; exact List.getElem_mem _
  refine ⟨hx, (plc_all hv m (by omega)).no _ hx ?_⟩
  rintro ⟨t, t1, t2, t3⟩
  have := List.pairwise_iff_getElem.1 hasc t m t2 (by omega : m < (ordF qs).length) t1
  rw [List.getD_eq_getElem?_getD, List.getElem?_eq_getElem t2, List.getD_eq_getElem?_getD, List.getElem?_eq_getElem (by omega : m < (ordF qs).length)] at t3
  simp only [Option.getD_some] at t3
  have e : (ofH qs 31)[t] = (ofH qs 31)[m]'(by unfold ordF at hol; omega) := t3
  rw [e] at this
  exact bef_irr qs _ this
theorem plc_bd {qs : List Quad} (hv : bsV qs = true) {m : Nat} (hm : m ≤ qs.length) {j : Nat} (hj : j < qs.length) : -1 ≤ (plTo qs (ordF qs) m).getD j 0 ∧ (plTo qs (ordF qs) m).getD j 0 ≤ 6 := by
  have P := plc_all hv m hm
  have hb := bmTo_bd qs 30
  have h7 := (bs_from hv).1
  by_cases h : doneB (ordF qs) m j
  · have := P.yes j hj h; omega
  · have := P.no j hj h; omega
/-- the number of places that the first k have -/
def mxTo (pl : List Int) : Nat → Int
  | 0 => 0
  | k + 1 => max (mxTo pl k) (pl.getD k 0 + 1)
theorem mxTo_spec (pl : List Int) (k : Nat) : (∀ j, j < k → pl.getD j 0 + 1 ≤ mxTo pl k) ∧ 0 ≤ mxTo pl k ∧ ∀ b : Int, 0 ≤ b → (∀ j, j < k → pl.getD j 0 + 1 ≤ b) → mxTo pl k ≤ b := by
  induction k with
  | zero => exact ⟨fun j hj => absurd hj (by omega), Int.le_refl _, fun b hb _ => hb⟩
  | succ k ih =>
    obtain ⟨h1, h2, h3⟩ := ih
    unfold mxTo
    refine ⟨fun j hj => ?_, by omega, fun b hb h => ?_⟩
    · by_cases e : j = k
      · subst e; omega
      · have := h1 j (by omega); omega
    · have := h3 b hb fun j hj => h j (by omega)
      have := h k (by omega)
      omega
theorem pl_good {qs : List Quad} (hv : bsV qs = true) : (plV qs).length = qs.length ∧ (∀ j, j < qs.length → 0 ≤ (plV qs).getD j 0 ∧ (plV qs).getD j 0 ≤ 6) ∧ (∀ i j, i < qs.length → j < qs.length → i ≠ j → (plV qs).getD i 0 = (plV qs).getD j 0 → ovq (qs.getD i q0) (qs.getD j q0) = false) ∧ mxTo (plV qs) qs.length = bmV qs := by
  have P := plc_all hv qs.length (Nat.le_refl _)
  have ep : plV qs = plTo qs (ordF qs) qs.length := by unfold plV; rw [if_pos hv]
  have hl := pl_len qs (ordF qs) qs.length
  have hd : ∀ j, j < qs.length → doneB (ordF qs) qs.length j := fun j hj => by
    obtain ⟨t, ht, e⟩ := List.mem_iff_getElem.1 ((ord_mem hv j).2 hj)
    have := ord_len hv
    exact ⟨t, by omega, ht, by rw [List.getD_eq_getElem?_getD, List.getElem?_eq_getElem ht]; exact e⟩
  have hbd := bmTo_bd qs 30
  have h7 := (bs_from hv).1
  rw [ep]
  refine ⟨hl, fun j hj => ?_, fun i j hi hj hij he => ?_, ?_⟩
  · have := P.yes j hj (hd j hj); omega
  · cases ho : ovq (qs.getD i q0) (qs.getD j q0)
    · rfl
    · exact absurd he (P.two i j hi hj hij (hd i hi) (hd j hj) ho)
  · obtain ⟨m1, m2, m3⟩ := mxTo_spec (plTo qs (ordF qs) qs.length) qs.length
    have eb : bmV qs = bmTo qs 30 := by unfold bmV; rw [if_pos hv]
    rw [eb]
    have u := m3 (bmTo qs 30) hbd.1 fun j hj => (P.yes j hj (hd j hj)).2
    rcases (bmTo_spec qs 30).2 with e | ⟨h, _, e⟩
    · omega
    · obtain ⟨l, l1, l2, l3⟩ := ba_list qs h qs.length
      have lo : ((l.map fun j => (plTo qs (ordF qs) qs.length).getD j 0).length : Int) ≤ mxTo (plTo qs (ordF qs) qs.length) qs.length := by
        have := nodup_le (l.map fun j => (plTo qs (ordF qs) qs.length).getD j 0) ((List.range (mxTo (plTo qs (ordF qs) qs.length) qs.length).toNat).map (fun q : Nat => (q : Int))) (by
          have key : ∀ l : List Nat, l.Nodup → (∀ j, j ∈ l → j < qs.length ∧ atH (qs.getD j q0) h) → (l.map fun j => (plTo qs (ordF qs) qs.length).getD j 0).Nodup := by
            intro l
            induction l with
            | nil => intro _ _; exact List.nodup_nil
            | cons a l ih =>
              intro hn hm
              obtain ⟨n1, n2⟩ := List.nodup_cons.1 hn
              rw [List.map_cons, List.nodup_cons]
              refine ⟨fun hin => ?_, ih n2 fun j hj => hm j (List.mem_cons_of_mem _ hj)⟩
              obtain ⟨b, hb, he⟩ := List.mem_map.1 hin
              have ha := hm a (List.mem_cons_self ..)
              have hbm := hm b (List.mem_cons_of_mem _ hb)
              refine P.two b a hbm.1 ha.1 (fun e => n1 (e ▸ hb)) (hd b hbm.1) (hd a ha.1) ((ovq_iff _ _).2 ?_) he
              have g1 := ha.2
              have g2 := hbm.2
              unfold atH at g1 g2
              omega
          exact key l l1 l3) fun x hx => by
          obtain ⟨j, hj, rfl⟩ := List.mem_map.1 hx
          have hjl := (l3 j hj).1
          have y := P.yes j hjl (hd j hjl)
          have := m1 j hjl
          exact List.mem_map.2 ⟨((plTo qs (ordF qs) qs.length).getD j 0).toNat, List.mem_range.2 (by omega), by omega⟩
        have e2 : ((List.range (mxTo (plTo qs (ordF qs) qs.length) qs.length).toNat).map (fun q : Nat => (q : Int))).length = (mxTo (plTo qs (ordF qs) qs.length) qs.length).toNat := by rw [List.length_map, List.length_range]
        rw [e2] at this
        omega
      rw [List.length_map, l2] at lo
      unfold baV at e
      omega
end Go.Proofs.Ytoiaggjjfahabaa
