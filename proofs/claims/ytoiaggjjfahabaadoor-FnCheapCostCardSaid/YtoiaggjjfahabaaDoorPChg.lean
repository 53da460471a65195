/- What MostPlan's plan is, and what is enough behind the first need. No condition. -/
import Derived.Test.YtoiaggjjfahabaaDoorChg7
namespace Go.Proofs.YtoiaggjjfahabaaDoor
open Go.RowKit
set_option linter.unusedVariables false
theorem us_len (qs : List Quad) : (usL qs).length = qs.length := by simp [usL]
theorem mp_good {qs : List Quad} {cs : List Int} (h1 : nsV qs = true) (h2 : fvV cs = true) :
    Plan (usL qs) (rssL qs) cs (mpV qs cs) ∧ (mpV qs cs).length = qs.length ∧ (∀ k, Sml ((mpV qs cs).getD k [])) ∧ (∀ k, k < qs.length → ((mpV qs cs).getD k []).length = 6) ∧ allL (mpV qs cs) qs.length = lcV (usL qs) (rssL qs) cs := by
  have hok := ch0_ok h1 h2
  have he : mpV qs cs = (ch0 qs cs).plan (ch0 qs cs).us.length := by unfold mpV; rw [if_pos ⟨h1, h2⟩]; show _ = (ch0 qs cs).plan (usL qs).length; rw [us_len]
  obtain ⟨p1, p2⟩ := hok.plan_ok
  have p3 := hok.plan_all
  rw [← he] at p1 p2 p3
  have e1 : (ch0 qs cs).us.length = qs.length := us_len qs
  rw [e1] at p2 p3
  refine ⟨p1, mpV_len h1 h2, fun k j => ?_, p2, p3⟩
  rcases Nat.lt_or_ge k qs.length with g | g
  · have a := p1.row k (by rw [e1]; exact g) j
    have b := rs_bd h1 k j
    have e : (ch0 qs cs).rss = rssL qs := rfl
    rw [e] at a
    omega
  · rw [getD_hi (mpV qs cs) [] k (by rw [mpV_len h1 h2]; exact g)]
    simp
theorem th_at {qs : List Quad} {cs : List Int} (h : 0 ≤ thV qs cs) : nsV qs = true ∧ fvV cs = true ∧ thV qs cs = (tgS (usL qs) (rssL qs) cs : Int) := by
  unfold thV at h ⊢
  split at h
  · rename_i g; exact ⟨g.1, g.2, by rw [if_pos g]⟩
  · omega
theorem th_no {qs : List Quad} {cs : List Int} (h : thV qs cs < 0) : thV qs cs = -1 ∧ muV qs cs = -1 := by
  unfold thV at h ⊢
  unfold muV
  split at h
  · omega
  · rename_i g; rw [if_neg g, if_neg g]; exact ⟨rfl, rfl⟩
theorem mp_tight {qs : List Quad} {cs : List Int} (h1 : nsV qs = true) (h2 : fvV cs = true) (j : Nat) (hj : j < 6) (hb : (tgS (usL qs) (rssL qs) cs).testBit j = true) : loadL (mpV qs cs) j qs.length = cs.getD j 0 := by
  obtain ⟨P, _, _, _, ha⟩ := mp_good h1 h2
  have := (tgS_spec (usL qs) (rssL qs) cs).2.1
  have e := us_len qs
  have r := P.tight (s := tgS (usL qs) (rssL qs) cs) (by rw [this, e, ha]) j hj hb
  rw [e] at r; exact r
/-- the first k rows give what is needed -/
def gvV (p : List (List Int)) (us : List Int) (k : Nat) : Bool := decide (∀ i, i < k → sumL (p.getD i []) 6 = us.getD i 0)
theorem gvV_next (p : List (List Int)) (us : List Int) (k : Nat) : gvV p us (k + 1) = (gvV p us k && (sumL (p.getD k []) 6 == us.getD k 0)) := by
  unfold gvV
  rw [Bool.eq_iff_iff]
  simp only [decide_eq_true_eq, Bool.and_eq_true, beq_iff_eq]
  constructor
  · intro h; exact ⟨fun i hi => h i (by omega), h k (by omega)⟩
  · rintro ⟨h1, h2⟩ i hi
    rcases Nat.lt_or_ge i k with g | g
    · exact h1 i g
    · have : i = k := by omega
      subst this; exact h2
theorem all_le (p : List (List Int)) (us : List Int) (n : Nat) (h : ∀ k, k < n → sumL (p.getD k []) 6 ≤ us.getD k 0) : allL p n ≤ sumL us n ∧ (allL p n = sumL us n ↔ ∀ k, k < n → sumL (p.getD k []) 6 = us.getD k 0) := by
  induction n with
  | zero => exact ⟨Int.le_refl _, by constructor; · intro _ k hk; omega
                                     · intro _; rfl⟩
  | succ n ih =>
    obtain ⟨a, b⟩ := ih (fun k hk => h k (by omega))
    have e1 : allL p (n + 1) = allL p n + sumL (p.getD n []) 6 := rfl
    have e2 : sumL us (n + 1) = sumL us n + us.getD n 0 := rfl
    have hn := h n (by omega)
    rw [e1, e2]
    refine ⟨by omega, fun g k hk => ?_, fun g => ?_⟩
    · rcases Nat.lt_or_ge k n with q | q
      · exact b.1 (by omega) k q
      · have : k = n := by omega
        subst this; omega
    · have := b.2 (fun k hk => g k (by omega))
      have := g n (by omega)
      omega
theorem gv_en {qs : List Quad} {cs : List Int} (h1 : nsV qs = true) (h2 : fvV cs = true) : gvV (mpV qs cs) (usL qs) qs.length = enV qs cs := by
  obtain ⟨P, hl, _, _, ha⟩ := mp_good h1 h2
  have e := us_len qs
  obtain ⟨_, b⟩ := all_le (mpV qs cs) (usL qs) qs.length (fun k hk => P.sum k (by rw [e]; exact hk))
  rw [ha] at b
  unfold gvV enV
  rw [decide_eq_decide]
  rw [← b]
  exact ⟨fun h => ⟨h1, h2, h⟩, fun h => h.2.2⟩
theorem getD_drop1 {α : Type} (l : List α) (d : α) (k : Nat) : (l.drop 1).getD k d = l.getD (k + 1) d := by
  rw [List.getD_eq_getElem?_getD, List.getD_eq_getElem?_getD, List.getElem?_drop, Nat.add_comm]
theorem sumL_drop (us : List Int) (n : Nat) : sumL us (n + 1) = us.getD 0 0 + sumL (us.drop 1) n := by
  induction n with
  | zero => show sumL us 0 + _ = _ + 0; simp [sumL]
  | succ n ih =>
    have e1 : sumL us (n + 1 + 1) = sumL us (n + 1) + us.getD (n + 1) 0 := rfl
    have e2 : sumL (us.drop 1) (n + 1) = sumL (us.drop 1) n + (us.drop 1).getD n 0 := rfl
    rw [e1, e2, ih, getD_drop1]; omega
theorem cCars_drop (us : List Int) (rss : List (List Int)) (s n : Nat) : cCars us rss s (n + 1) = min (us.getD 0 0) (cRate (rss.getD 0 []) s 6) + cCars (us.drop 1) (rss.drop 1) s n := by
  induction n with
  | zero => show cCars us rss s 0 + _ = _ + 0; simp [cCars]
  | succ n ih =>
    have e1 : cCars us rss s (n + 1 + 1) = cCars us rss s (n + 1) + min (us.getD (n + 1) 0) (cRate (rss.getD (n + 1) []) s 6) := rfl
    have e2 : cCars (us.drop 1) (rss.drop 1) s (n + 1) = cCars (us.drop 1) (rss.drop 1) s n + min ((us.drop 1).getD n 0) (cRate ((rss.drop 1).getD n []) s 6) := rfl
    rw [e1, e2, ih, getD_drop1, getD_drop1]; omega
theorem cCars_le (us : List Int) (rss : List (List Int)) (s n : Nat) : cCars us rss s n ≤ sumL us n := by
  induction n with
  | zero => exact Int.le_refl _
  | succ n ih =>
    have e1 : cCars us rss s (n + 1) = cCars us rss s n + min (us.getD n 0) (cRate (rss.getD n []) s 6) := rfl
    have e2 : sumL us (n + 1) = sumL us n + us.getD n 0 := rfl
    rw [e1, e2]; omega
theorem lc_sum (us : List Int) (rss : List (List Int)) (cs : List Int) : lcV us rss cs ≤ sumL us us.length := by
  have a := lcV_le us rss cs 0 (by omega)
  have e : cutV us rss cs 0 = cFeed cs 0 6 + cCars us rss 0 us.length := rfl
  have f : ∀ k, cFeed cs 0 k = 0 := fun k => by
    induction k with
    | zero => rfl
    | succ k ih => show cFeed cs 0 k + _ = 0; rw [ih]; simp
  have := cCars_le us rss 0 us.length
  rw [e, f] at a; omega
theorem ns_drop {qs : List Quad} (h : nsV qs = true) : nsV (qs.drop 1) = true := by
  unfold nsV at h ⊢
  simp only [decide_eq_true_eq] at h ⊢
  refine ⟨by rw [List.length_drop]; omega, fun i hi => ?_⟩
  rw [List.length_drop] at hi
  rw [getD_drop1]; exact h.2 (i + 1) (by omega)
theorem en_drop {qs : List Quad} {cs : List Int} (h : enV qs cs = true) (hq : 0 < qs.length) : enV (qs.drop 1) cs = true := by
  unfold enV at h ⊢
  simp only [decide_eq_true_eq] at h ⊢
  obtain ⟨h1, h2, h3⟩ := h
  refine ⟨ns_drop h1, h2, ?_⟩
  have ed : usL (qs.drop 1) = (usL qs).drop 1 := by simp [usL]
  have er : rssL (qs.drop 1) = (rssL qs).drop 1 := by simp [rssL]
  have el : (qs.drop 1).length = qs.length - 1 := by simp
  have e := us_len qs
  obtain ⟨n, hn⟩ : ∃ n, qs.length = n + 1 := ⟨qs.length - 1, by omega⟩
  have e2 := us_len (qs.drop 1)
  have up := lc_sum (usL (qs.drop 1)) (rssL (qs.drop 1)) cs
  have lo : sumL (usL (qs.drop 1)) n ≤ lcV (usL (qs.drop 1)) (rssL (qs.drop 1)) cs := lcV_ge fun s hs => by
    have a := lcV_le (usL qs) (rssL qs) cs s hs
    have c1 : cutV (usL qs) (rssL qs) cs s = cFeed cs s 6 + cCars (usL qs) (rssL qs) s (n + 1) := by unfold cutV; rw [e, hn]
    have c2 : cutV (usL (qs.drop 1)) (rssL (qs.drop 1)) cs s = cFeed cs s 6 + cCars ((usL qs).drop 1) ((rssL qs).drop 1) s n := by unfold cutV; rw [e2, el, hn, ed, er]; rfl
    rw [cCars_drop] at c1
    rw [h3, hn, sumL_drop] at a
    rw [c2, ed]
    omega
  rw [e2, el, hn] at up
  rw [el, hn]
  have : n + 1 - 1 = n := by omega
  rw [this] at up ⊢
  omega
end Go.Proofs.YtoiaggjjfahabaaDoor
