/- Plain: the first plan of the most units is valid and gives them all; plans give at most what a cut lets through; the cheapest loads. No program. -/
import Derived.Test.YtoiaggjjfahabaaDoorPCut
namespace Go.Proofs.YtoiaggjjfahabaaDoor
set_option linter.unusedVariables false
/-- of the numbers up to n the greatest that gives enough; 0 if none does -/
def dnV (f : Nat → Int) (m : Int) : Nat → Nat
  | 0 => 0
  | u + 1 => if f (u + 1) < m then dnV f m u else u + 1
theorem dnV_le (f : Nat → Int) (m : Int) (n : Nat) : dnV f m n ≤ n := by
  induction n with
  | zero => simp [-List.getD_eq_getElem?_getD, dnV]
  | succ n ih => unfold dnV; split <;> omega
theorem dnV_ok {f : Nat → Int} {m : Int} {n u : Nat} (hu : u ≤ n) (h : m ≤ f u) : m ≤ f (dnV f m n) := by
  induction n with
  | zero => rw [show u = 0 by omega] at h; exact h
  | succ n ih =>
    unfold dnV
    split
    · rename_i g
      by_cases e : u = n + 1
      · subst e; omega
      · exact ih (by omega)
    · rename_i g; omega
/-- how many units car i gets in hour h -/
def Chs.fst (σ : Chs) (i h : Nat) : Nat := dnV (fun u => (u : Int) + (σ.give i h u).F) σ.F (σ.top i h).toNat
def Chs.nxt (σ : Chs) (i h : Nat) : Chs := σ.give i h (σ.fst i h)
theorem Chs.ok.top_nn {σ : Chs} (hσ : σ.ok) (i h : Nat) : 0 ≤ σ.top i h := by
  have := hσ.2.2.2.1 i; have := hσ.2.2.2.2.1 i h; have := hσ.2.2.2.2.2 h; unfold Chs.top; omega
theorem Chs.ok.fst_le {σ : Chs} (hσ : σ.ok) (i h : Nat) : (σ.fst i h : Int) ≤ σ.top i h := by
  have := dnV_le (fun u => (u : Int) + (σ.give i h u).F) σ.F (σ.top i h).toNat
  have := hσ.top_nn i h
  unfold Chs.fst; omega
theorem Chs.ok.nxt_ok {σ : Chs} (hσ : σ.ok) {i h : Nat} (hi : i < σ.us.length) (hh : h < 6) : (σ.nxt i h).ok := hσ.give_ok hi hh (by omega) (hσ.fst_le i h)
theorem Chs.ok.nxt_F {σ : Chs} (hσ : σ.ok) {i h : Nat} (hi : i < σ.us.length) (hh : h < 6) : (σ.nxt i h).F = σ.F - σ.fst i h := by
  obtain ⟨u, h1, h2⟩ := hσ.give_some hi hh
  have h3 := dnV_ok (f := fun u => (u : Int) + (σ.give i h u).F) (m := σ.F) (n := (σ.top i h).toNat) (u := u) (by omega) h2
  have h4 := hσ.give_le hi hh (by omega : (0 : Int) ≤ (σ.fst i h : Nat)) (hσ.fst_le i h)
  unfold Chs.nxt
  unfold Chs.fst at h4 ⊢
  omega
theorem Chs.nxt_us (σ : Chs) (i h : Nat) : (σ.nxt i h).us = σ.us.set i (σ.us.getD i 0 - σ.fst i h) := rfl
theorem Chs.nxt_rss (σ : Chs) (i h : Nat) : (σ.nxt i h).rss = σ.rss.set i ((σ.rss.getD i []).set h 0) := rfl
theorem Chs.nxt_cs (σ : Chs) (i h : Nat) : (σ.nxt i h).cs = σ.cs.set h (σ.cs.getD h 0 - σ.fst i h) := rfl
theorem Chs.nxt_len (σ : Chs) (i h : Nat) : (σ.nxt i h).us.length = σ.us.length := by rw [Chs.nxt_us, List.length_set]
/-- behind the first h hours of car i -/
def Chs.hrs (σ : Chs) (i : Nat) : Nat → Chs
  | 0 => σ
  | h + 1 => (σ.hrs i h).nxt i h
/-- what car i gets in the first h hours -/
def Chs.row (σ : Chs) (i : Nat) : Nat → List Int
  | 0 => []
  | h + 1 => σ.row i h ++ [((σ.hrs i h).fst i h : Int)]
/-- behind the first i cars -/
def Chs.cars (σ : Chs) : Nat → Chs
  | 0 => σ
  | i + 1 => (σ.cars i).hrs i 6
/-- the plan of the first i cars -/
def Chs.plan (σ : Chs) : Nat → List (List Int)
  | 0 => []
  | i + 1 => σ.plan i ++ [(σ.cars i).row i 6]
theorem Chs.row_len (σ : Chs) (i h : Nat) : (σ.row i h).length = h := by
  induction h with
  | zero => rfl
  | succ h ih => simp [-List.getD_eq_getElem?_getD, Chs.row, ih]
theorem Chs.plan_len (σ : Chs) (i : Nat) : (σ.plan i).length = i := by
  induction i with
  | zero => rfl
  | succ i ih => simp [-List.getD_eq_getElem?_getD, Chs.plan, ih]
theorem getD_app_lo {α : Type} (l : List α) (x d : α) (k : Nat) (h : k < l.length) : (l ++ [x]).getD k d = l.getD k d := by
  rw [List.getD_eq_getElem?_getD, List.getD_eq_getElem?_getD, List.getElem?_append_left h]
theorem getD_app_at {α : Type} (l : List α) (x d : α) (k : Nat) (h : k = l.length) : (l ++ [x]).getD k d = x := by
  subst h; simp [List.getD_eq_getElem?_getD]
theorem getD_hi {α : Type} (l : List α) (d : α) (k : Nat) (h : l.length ≤ k) : l.getD k d = d := by
  rw [List.getD_eq_getElem?_getD, List.getElem?_eq_none h]; rfl
/-- all that is known behind h hours of car i -/
theorem Chs.ok.hrs_all {σ : Chs} (hσ : σ.ok) {i : Nat} (hi : i < σ.us.length) (h : Nat) (hh : h ≤ 6) :
    (σ.hrs i h).ok ∧ (σ.hrs i h).us.length = σ.us.length ∧ (∀ k, k ≠ i → (σ.hrs i h).us.getD k 0 = σ.us.getD k 0 ∧ (σ.hrs i h).rss.getD k [] = σ.rss.getD k []) ∧
    (∀ j, ((σ.hrs i h).rss.getD i []).getD j 0 = if j < h then 0 else (σ.rss.getD i []).getD j 0) ∧
    (∀ j, (σ.hrs i h).cs.getD j 0 = σ.cs.getD j 0 - (σ.row i h).getD j 0) ∧
    (∀ j, 0 ≤ (σ.row i h).getD j 0 ∧ (σ.row i h).getD j 0 ≤ (σ.rss.getD i []).getD j 0) ∧
    (∃ S, (∀ n, h ≤ n → (σ.row i n).length = n) ∧ S = σ.us.getD i 0 - (σ.hrs i h).us.getD i 0 ∧ S = σ.F - (σ.hrs i h).F) := by
  induction h with
  | zero =>
    refine ⟨hσ, rfl, fun k _ => ⟨rfl, rfl⟩, fun j => by simp [-List.getD_eq_getElem?_getD, Chs.hrs], fun j => by simp [-List.getD_eq_getElem?_getD, Chs.hrs, Chs.row], fun j => ?_, 0, fun n _ => σ.row_len i n, by simp [-List.getD_eq_getElem?_getD, Chs.hrs], by simp [-List.getD_eq_getElem?_getD, Chs.hrs]⟩
    have := hσ.2.2.2.2.1 i j
    simpa [Chs.row] using this
  | succ h ih =>
    obtain ⟨i1, i2, i3, i4, i5, i6, S, _, i7, i8⟩ := ih (by omega)
    have hi' : i < (σ.hrs i h).us.length := by omega
    have n1 := i1.nxt_ok hi' (show h < 6 by omega)
    have n2 := i1.nxt_F hi' (show h < 6 by omega)
    have n3 := i1.fst_le i h
    have ol := i1.2.2.1 i hi'
    have ocl := i1.2.1
    have orl := i1.1
    have t1 := i4 h
    rw [if_neg (Nat.lt_irrefl h)] at t1
    have t2 := i5 h
    have rl := σ.row_len i h
    have t3 : (σ.row i h).getD h 0 = 0 := by rw [List.getD_eq_getElem?_getD, List.getElem?_eq_none (by omega)]; rfl
    unfold Chs.top at n3
    refine ⟨n1, by show ((σ.hrs i h).nxt i h).us.length = _; rw [Chs.nxt_len, i2], fun k hk => ?_, fun j => ?_, fun j => ?_, fun j => ?_, S + (σ.hrs i h).fst i h, fun n _ => σ.row_len i n, ?_, ?_⟩
    · show ((σ.hrs i h).nxt i h).us.getD k 0 = _ ∧ ((σ.hrs i h).nxt i h).rss.getD k [] = _
      rw [Chs.nxt_us, Chs.nxt_rss, getD_set, getD_set, if_neg (fun g => hk g.1.symm), if_neg (fun g => hk g.1.symm)]
      exact i3 k hk
    · show (((σ.hrs i h).nxt i h).rss.getD i []).getD j 0 = _
      rw [Chs.nxt_rss, getD_set, if_pos ⟨rfl, by omega⟩, getD_set]
      by_cases e : h = j
      · subst e; rw [if_pos ⟨rfl, by omega⟩, if_pos (by omega)]
      · rw [if_neg (fun g => e g.1), i4 j]
        by_cases g : j < h
        · rw [if_pos g, if_pos (by omega)]
        · rw [if_neg g, if_neg (by omega)]
    · show ((σ.hrs i h).nxt i h).cs.getD j 0 = _ - (σ.row i h ++ [_]).getD j 0
      rw [Chs.nxt_cs, getD_set]
      by_cases e : h = j
      · subst e
        rw [if_pos ⟨rfl, by omega⟩, getD_app_at _ _ _ _ rl.symm]
        omega
      · rw [if_neg (fun g => e g.1), i5 j]
        by_cases g : j < h
        · rw [getD_app_lo _ _ _ _ (by omega)]
        · rw [getD_hi (σ.row i h) 0 j (by omega), getD_hi (σ.row i h ++ [_]) 0 j (by rw [List.length_append, rl]; show h + 1 ≤ j; omega)]
    · show 0 ≤ (σ.row i h ++ [_]).getD j 0 ∧ (σ.row i h ++ [_]).getD j 0 ≤ _
      by_cases e : h = j
      · subst e
        rw [getD_app_at _ _ _ _ rl.symm]
        omega
      · by_cases g : j < h
        · rw [getD_app_lo _ _ _ _ (by omega)]; exact i6 j
        · rw [getD_hi (σ.row i h ++ [_]) 0 j (by rw [List.length_append, rl]; show h + 1 ≤ j; omega)]
          exact ⟨Int.le_refl _, hσ.2.2.2.2.1 i j⟩
    · show _ = _ - ((σ.hrs i h).nxt i h).us.getD i 0
      rw [Chs.nxt_us, getD_set, if_pos ⟨rfl, hi'⟩]; omega
    · show _ = _ - ((σ.hrs i h).nxt i h).F
      rw [n2]; omega
/-- the sum of the first k numbers -/
def sumL (xs : List Int) : Nat → Int
  | 0 => 0
  | k + 1 => sumL xs k + xs.getD k 0
theorem sumL_app (xs : List Int) (y : Int) (k : Nat) (h : k = xs.length) : sumL (xs ++ [y]) (k + 1) = sumL xs k + y := by
  have key : ∀ n, n ≤ xs.length → sumL (xs ++ [y]) n = sumL xs n := by
    intro n
    induction n with
    | zero => intro _; rfl
    | succ n ih => intro hn; unfold sumL; rw [ih (by omega), getD_app_lo _ _ _ _ (by omega)]
  show sumL (xs ++ [y]) k + _ = _
  rw [key k (by omega), getD_app_at _ _ _ _ h]
/-- what car i gets in all hours is what it wants less -/
theorem Chs.ok.row_sum {σ : Chs} (hσ : σ.ok) {i : Nat} (hi : i < σ.us.length) (h : Nat) (hh : h ≤ 6) : sumL (σ.row i h) h = σ.us.getD i 0 - (σ.hrs i h).us.getD i 0 ∧ sumL (σ.row i h) h = σ.F - (σ.hrs i h).F := by
  induction h with
  | zero => simp [-List.getD_eq_getElem?_getD, sumL, Chs.hrs]
  | succ h ih =>
    have ih := ih (by omega)
    obtain ⟨i1, i2, _⟩ := hσ.hrs_all hi h (by omega)
    have n2 := i1.nxt_F (show i < (σ.hrs i h).us.length by omega) (show h < 6 by omega)
    have e : sumL (σ.row i (h + 1)) (h + 1) = sumL (σ.row i h) h + (σ.hrs i h).fst i h := sumL_app _ _ _ (σ.row_len i h).symm
    have e2 : (σ.hrs i (h + 1)).us.getD i 0 = (σ.hrs i h).us.getD i 0 - (σ.hrs i h).fst i h := by
      show ((σ.hrs i h).nxt i h).us.getD i 0 = _
      rw [Chs.nxt_us, getD_set, if_pos ⟨rfl, by omega⟩]
    have e3 : (σ.hrs i (h + 1)).F = (σ.hrs i h).F - (σ.hrs i h).fst i h := n2
    omega
/-- what all cars of a plan get in hour j, of the first k cars -/
def loadL (p : List (List Int)) (j : Nat) : Nat → Int
  | 0 => 0
  | k + 1 => loadL p j k + (p.getD k []).getD j 0
/-- the sum of all numbers of the first k rows -/
def allL (p : List (List Int)) : Nat → Int
  | 0 => 0
  | k + 1 => allL p k + sumL (p.getD k []) 6
theorem loadL_app (p : List (List Int)) (r : List Int) (j k : Nat) (h : k = p.length) : loadL (p ++ [r]) j (k + 1) = loadL p j k + r.getD j 0 := by
  have key : ∀ n, n ≤ p.length → loadL (p ++ [r]) j n = loadL p j n := by
    intro n
    induction n with
    | zero => intro _; rfl
    | succ n ih => intro hn; unfold loadL; rw [ih (by omega), getD_app_lo _ _ _ _ (by omega)]
  show loadL (p ++ [r]) j k + _ = _
  rw [key k (by omega), getD_app_at _ _ _ _ h]
theorem allL_app (p : List (List Int)) (r : List Int) (k : Nat) (h : k = p.length) : allL (p ++ [r]) (k + 1) = allL p k + sumL r 6 := by
  have key : ∀ n, n ≤ p.length → allL (p ++ [r]) n = allL p n := by
    intro n
    induction n with
    | zero => intro _; rfl
    | succ n ih => intro hn; unfold allL; rw [ih (by omega), getD_app_lo _ _ _ _ (by omega)]
  show allL (p ++ [r]) k + _ = _
  rw [key k (by omega), getD_app_at _ _ _ _ h]
/-- all that is known behind the first i cars -/
theorem Chs.ok.cars_all {σ : Chs} (hσ : σ.ok) (i : Nat) (hi : i ≤ σ.us.length) :
    (σ.cars i).ok ∧ (σ.cars i).us.length = σ.us.length ∧ (∀ k, i ≤ k → (σ.cars i).us.getD k 0 = σ.us.getD k 0 ∧ (σ.cars i).rss.getD k [] = σ.rss.getD k []) ∧
    (∀ k j, k < i → ((σ.cars i).rss.getD k []).getD j 0 = 0) ∧
    (∀ j, (σ.cars i).cs.getD j 0 = σ.cs.getD j 0 - loadL (σ.plan i) j i) ∧
    (∀ k, k < i → ((σ.plan i).getD k []).length = 6 ∧ sumL ((σ.plan i).getD k []) 6 ≤ σ.us.getD k 0 ∧ ∀ j, 0 ≤ ((σ.plan i).getD k []).getD j 0 ∧ ((σ.plan i).getD k []).getD j 0 ≤ (σ.rss.getD k []).getD j 0) ∧
    allL (σ.plan i) i = σ.F - (σ.cars i).F := by
  induction i with
  | zero => exact ⟨hσ, rfl, fun k _ => ⟨rfl, rfl⟩, fun k j hk => absurd hk (by omega), fun j => by simp [-List.getD_eq_getElem?_getD, Chs.cars, loadL], fun k hk => absurd hk (by omega), by simp [-List.getD_eq_getElem?_getD, Chs.cars, allL]⟩
  | succ i ih =>
    obtain ⟨i1, i2, i3, i4, i5, i6, i7⟩ := ih (by omega)
    have hi' : i < (σ.cars i).us.length := by omega
    obtain ⟨h1, h2, h3, h4, h5, h6, _⟩ := i1.hrs_all hi' 6 (Nat.le_refl _)
    have h7 := i1.row_sum hi' 6 (Nat.le_refl _)
    have pl := σ.plan_len i
    have rl := (σ.cars i).row_len i 6
    have u0 := h1.2.2.2.1 i
    have e3 := i3 i (Nat.le_refl _)
    refine ⟨h1, by show ((σ.cars i).hrs i 6).us.length = _; omega, fun k hk => ?_, fun k j hk => ?_, fun j => ?_, fun k hk => ?_, ?_⟩
    · have a := h3 k (by omega)
      have b := i3 k (by omega)
      exact ⟨a.1.trans b.1, a.2.trans b.2⟩
    · by_cases e : k = i
      · subst e
        have a := h4 j
        show (((σ.cars k).hrs k 6).rss.getD k []).getD j 0 = 0
        rw [a]
        split
        · rfl
        · rw [List.getD_eq_getElem?_getD, List.getElem?_eq_none (by have := i1.2.2.1 k hi'; omega)]; rfl
      · have a := (h3 k e).2
        show (((σ.cars i).hrs i 6).rss.getD k []).getD j 0 = 0
        rw [a]; exact i4 k j (by omega)
    · show ((σ.cars i).hrs i 6).cs.getD j 0 = _ - loadL (σ.plan i ++ [_]) j (i + 1)
      rw [h5 j, i5 j, loadL_app _ _ _ _ pl.symm]; omega
    · have pe : σ.plan (i + 1) = σ.plan i ++ [(σ.cars i).row i 6] := rfl
      rw [pe]
      by_cases e : k = i
      · subst e
        rw [getD_app_at _ _ _ _ pl.symm]
        refine ⟨rl, by omega, fun j => ?_⟩
        have := h6 j
        rw [e3.2] at this
        exact this
      · have := i6 k (by omega)
        rw [getD_app_lo _ _ _ _ (by omega)]
        exact this
    · show allL (σ.plan i ++ [_]) (i + 1) = _ - ((σ.cars i).hrs i 6).F
      rw [allL_app _ _ _ pl.symm]; omega
/-- the whole plan gives all that can be given -/
theorem Chs.ok.plan_all {σ : Chs} (hσ : σ.ok) : allL (σ.plan σ.us.length) σ.us.length = σ.F := by
  obtain ⟨h1, h2, _, h4, _, _, h7⟩ := hσ.cars_all σ.us.length (Nat.le_refl _)
  have h0 : (σ.cars σ.us.length).F = 0 := by
    have hr : ∀ n, n ≤ σ.us.length → cCars (σ.cars σ.us.length).us (σ.cars σ.us.length).rss 0 n = 0 := by
      intro n
      induction n with
      | zero => intro _; rfl
      | succ n ih =>
        intro hn
        have hz : ∀ m, cRate ((σ.cars σ.us.length).rss.getD n []) 0 m = 0 := by
          intro m
          induction m with
          | zero => rfl
          | succ m ihm => unfold cRate; rw [ihm, h4 n m (by omega)]; simp [-List.getD_eq_getElem?_getD]
        have := h1.2.2.2.1 n
        unfold cCars
        rw [ih (by omega), hz]
        omega
    have hf : ∀ n, cFeed (σ.cars σ.us.length).cs 0 n = 0 := by
      intro n
      induction n with
      | zero => rfl
      | succ n ih => unfold cFeed; rw [ih]; simp [-List.getD_eq_getElem?_getD]
    have l := lcV_le (σ.cars σ.us.length).us (σ.cars σ.us.length).rss (σ.cars σ.us.length).cs 0 (by omega)
    have g : 0 ≤ (σ.cars σ.us.length).F := lcV_ge fun s _ => cutV_nn _ _ _ h1.2.2.2.1 h1.2.2.2.2.1 h1.2.2.2.2.2 s
    unfold cutV at l
    rw [hf, h2, hr _ (Nat.le_refl _)] at l
    unfold Chs.F at g ⊢
    omega
  omega
/-- a plan of n cars -/
structure Plan (us : List Int) (rss : List (List Int)) (cs : List Int) (p : List (List Int)) : Prop where
  len : p.length = us.length
  row : ∀ k, k < us.length → ∀ j, 0 ≤ (p.getD k []).getD j 0 ∧ (p.getD k []).getD j 0 ≤ (rss.getD k []).getD j 0
  sum : ∀ k, k < us.length → sumL (p.getD k []) 6 ≤ us.getD k 0
  load : ∀ j, j < 6 → loadL p j us.length ≤ cs.getD j 0
theorem Chs.ok.plan_ok {σ : Chs} (hσ : σ.ok) : Plan σ.us σ.rss σ.cs (σ.plan σ.us.length) ∧ ∀ k, k < σ.us.length → ((σ.plan σ.us.length).getD k []).length = 6 := by
  obtain ⟨h1, h2, _, h4, h5, h6, h7⟩ := hσ.cars_all σ.us.length (Nat.le_refl _)
  refine ⟨⟨σ.plan_len _, fun k hk j => (h6 k hk).2.2 j, fun k hk => (h6 k hk).2.1, fun j _ => ?_⟩, fun k hk => (h6 k hk).1⟩
  have := h5 j; have := h1.2.2.2.2.2 j; omega
/-- the loads of the hours that s has -/
def setL (p : List (List Int)) (n s : Nat) : Nat → Int
  | 0 => 0
  | h + 1 => setL p n s h + if s.testBit h then loadL p h n else 0
theorem load_all (p : List (List Int)) (n : Nat) : allL p n = setL p n 63 6 := by
  have e : setL p n 63 6 = loadL p 0 n + loadL p 1 n + loadL p 2 n + loadL p 3 n + loadL p 4 n + loadL p 5 n := by
    simp [-List.getD_eq_getElem?_getD, setL, show (63 : Nat).testBit 0 = true from rfl, show (63 : Nat).testBit 1 = true from rfl, show (63 : Nat).testBit 2 = true from rfl, show (63 : Nat).testBit 3 = true from rfl, show (63 : Nat).testBit 4 = true from rfl, show (63 : Nat).testBit 5 = true from rfl]
  rw [e]
  clear e
  induction n with
  | zero => rfl
  | succ n ih =>
    unfold allL loadL
    rw [ih]
    simp only [sumL]
    omega
/-- the hours of a plan split by a set -/
theorem plan_split (p : List (List Int)) (us : List Int) (rss : List (List Int)) (s n : Nat) (hr : ∀ k, k < n → ∀ j, 0 ≤ (p.getD k []).getD j 0 ∧ (p.getD k []).getD j 0 ≤ (rss.getD k []).getD j 0) (hs : ∀ k, k < n → sumL (p.getD k []) 6 ≤ us.getD k 0) : allL p n ≤ setL p n s 6 + cCars us rss s n := by
  induction n with
  | zero => simp [-List.getD_eq_getElem?_getD, allL, cCars, setL, loadL]
  | succ n ih =>
    have ih := ih (fun k hk => hr k (by omega)) fun k hk => hs k (by omega)
    have s1 := hs n (by omega)
    have r1 := hr n (by omega)
    -- the row of car n
    have key : ∀ m, sumL (p.getD n []) m ≤ (setL p (n + 1) s m - setL p n s m) + cRate (rss.getD n []) s m ∧ 0 ≤ setL p (n + 1) s m - setL p n s m := by
      intro m
      induction m with
      | zero => simp [-List.getD_eq_getElem?_getD, sumL, setL, cRate]
      | succ m ihm =>
        have a := r1 m
        have e : loadL p m (n + 1) = loadL p m n + (p.getD n []).getD m 0 := rfl
        unfold sumL setL cRate
        rw [e]
        cases s.testBit m <;> simp [-List.getD_eq_getElem?_getD] <;> omega
    have k6 := key 6
    unfold allL cCars
    omega
/-- no plan gives more than a cut lets through -/
theorem Plan.le_cut {us : List Int} {rss : List (List Int)} {cs : List Int} {p : List (List Int)} (h : Plan us rss cs p) (s : Nat) : allL p us.length ≤ cutV us rss cs s := by
  have h1 := plan_split p us rss s us.length h.row h.sum
  have h2 : ∀ m, m ≤ 6 → setL p us.length s m ≤ cFeed cs s m := by
    intro m
    induction m with
    | zero => intro _; exact Int.le_refl _
    | succ m ih =>
      intro hm
      have := ih (by omega)
      have := h.load m (by omega)
      unfold setL cFeed
      split <;> omega
  have := h2 6 (Nat.le_refl _)
  unfold cutV
  omega
theorem Plan.le_most {us : List Int} {rss : List (List Int)} {cs : List Int} {p : List (List Int)} (h : Plan us rss cs p) : allL p us.length ≤ lcV us rss cs := lcV_ge fun s _ => h.le_cut s
/-- in the hours of a least cut all of the feed is given by a plan of the most units -/
theorem Plan.tight {us : List Int} {rss : List (List Int)} {cs : List Int} {p : List (List Int)} (h : Plan us rss cs p) {s : Nat} (hs : cutV us rss cs s = allL p us.length) (j : Nat) (hj : j < 6) (hb : s.testBit j = true) : loadL p j us.length = cs.getD j 0 := by
  have h1 := plan_split p us rss s us.length h.row h.sum
  have h2 : ∀ m, m ≤ 6 → setL p us.length s m ≤ cFeed cs s m ∧ (j < m → loadL p j us.length < cs.getD j 0 → setL p us.length s m < cFeed cs s m) := by
    intro m
    induction m with
    | zero => intro _; exact ⟨Int.le_refl _, fun h => absurd h (by omega)⟩
    | succ m ih =>
      intro hm
      have a := ih (by omega)
      have b := h.load m (by omega)
      unfold setL cFeed
      by_cases e : j = m
      · subst e
        rw [hb]
        simp [-List.getD_eq_getElem?_getD]
        omega
      · refine ⟨by split <;> omega, fun hjm hl => ?_⟩
        have := a.2 (by omega) hl
        split <;> omega
  have h3 := h2 6 (Nat.le_refl _)
  have h4 := h.load j hj
  unfold cutV at hs
  rcases Int.lt_or_le (loadL p j us.length) (cs.getD j 0) with g | g
  · have := h3.2 hj g; omega
  · omega
/-- one unit more in an hour: as much or more by 1 -/
theorem lcV_more (us : List Int) (rss : List (List Int)) (cs : List Int) (h : Nat) (hl : h < cs.length) : lcV us rss (cs.set h (cs.getD h 0 + 1)) = lcV us rss cs ∨ lcV us rss (cs.set h (cs.getD h 0 + 1)) = lcV us rss cs + 1 := by
  have key : ∀ s, cutV us rss cs s ≤ cutV us rss (cs.set h (cs.getD h 0 + 1)) s ∧ cutV us rss (cs.set h (cs.getD h 0 + 1)) s ≤ cutV us rss cs s + 1 := fun s => by
    unfold cutV
    rw [cFeed_set _ _ _ _ _ hl]
    split <;> omega
  obtain ⟨s, a, b⟩ := lcV_at us rss cs
  obtain ⟨t, c, d⟩ := lcV_at us rss (cs.set h (cs.getD h 0 + 1))
  have e := lcV_le us rss (cs.set h (cs.getD h 0 + 1)) s a
  have f := lcV_le us rss cs t c
  have := key s; have := key t
  omega
end Go.Proofs.YtoiaggjjfahabaaDoor
