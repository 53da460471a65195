/- What a desk answers to one who asks. No program in sight. -/
import Derived.Test.YtoiaggjjfahabaaPDv
namespace Go.Proofs.Ytoiaggjjfahabaa
open Go.RowKit
set_option linter.unusedVariables false
/-- b at its place by ids -/
def putV : List Quad → Quad → List Quad
  | [], b => [b]
  | t :: ts, b => if t.a < b.a then t :: putV ts b else b :: t :: ts
theorem put_perm (ts : List Quad) (b : Quad) : (putV ts b).Perm (ts ++ [b]) := by
  induction ts with
  | nil => exact List.Perm.refl _
  | cons t ts ih =>
    unfold putV
    split
    · exact ih.cons t
    · exact List.perm_append_comm (l₁ := [b]) (l₂ := t :: ts)
theorem put_len (ts : List Quad) (b : Quad) : (putV ts b).length = ts.length + 1 := by
  rw [(put_perm ts b).length_eq, List.length_append]; rfl
theorem put_cut (ts : List Quad) (b : Quad) (k : Nat) (h : ∀ j, j < k → (ts.getD j q0).a < b.a) (hk : k ≤ ts.length) (he : k = ts.length ∨ ¬ (ts.getD k q0).a < b.a) : putV ts b = ts.take k ++ [b] ++ ts.drop k := by
  induction ts generalizing k with
  | nil =>
    obtain rfl : k = 0 := by simpa using hk
    rfl
  | cons t ts ih =>
    cases k with
    | zero =>
      have ht : ¬ t.a < b.a := by
        rcases he with e | e
        · simp at e
        · exact e
      unfold putV; rw [if_neg ht]; rfl
    | succ k =>
      have ht : t.a < b.a := h 0 (by omega)
      unfold putV
      rw [if_pos ht, ih k (fun j hj => h (j + 1) (by omega)) (by simpa using hk) (by rcases he with e | e; exact .inl (by simpa using e); exact .inr e)]
      rfl
/-- ids ascend -/
def Asc (ts : List Quad) : Prop := ts.Pairwise fun x y => x.a < y.a
theorem asc_of {ts : List Quad} (h : ascD ts ts.length) : Asc ts := by
  unfold Asc
  rw [List.pairwise_iff_getElem]
  intro i j hi hj hij
  have key : ∀ d, i + 1 + d < ts.length → (ts.getD i q0).a < (ts.getD (i + 1 + d) q0).a := fun d => by
    induction d with
    | zero => intro g; exact h i g
    | succ d ih => intro g; have h1 := ih (by omega); have h2 := h (i + 1 + d) (by omega); rw [show i + 1 + (d + 1) = i + 1 + d + 1 by omega]; omega
  have g := key (j - i - 1) (by omega)
  rw [show i + 1 + (j - i - 1) = j by omega, getD_get0 ts i hi, getD_get0 ts j hj] at g
  exact g
theorem put_mem (ts : List Quad) (b x : Quad) : x ∈ putV ts b ↔ x ∈ ts ∨ x = b := by
  rw [(put_perm ts b).mem_iff, List.mem_append, List.mem_singleton]
theorem put_asc {ts : List Quad} {b : Quad} (h : Asc ts) (hb : ∀ x ∈ ts, x.a ≠ b.a) : Asc (putV ts b) := by
  unfold Asc at *
  induction ts with
  | nil => exact List.pairwise_singleton _ _
  | cons t ts ih =>
    rw [List.pairwise_cons] at h
    have ht := hb t (List.mem_cons_self)
    unfold putV
    split
    · rename_i hlt
      rw [List.pairwise_cons]
      refine ⟨fun x hx => ?_, ih h.2 fun x hx => hb x (List.mem_cons_of_mem _ hx)⟩
      rcases (put_mem ts b x).1 hx with g | rfl
      · exact h.1 x g
      · exact hlt
    · rename_i hge
      rw [List.pairwise_cons, List.pairwise_cons]
      refine ⟨fun x hx => ?_, h⟩
      rcases List.mem_cons.1 hx with rfl | g
      · omega
      · have := h.1 x g; omega
theorem srt_uniq {xs ys : List Quad} (hp : xs.Perm ys) (hx : Asc xs) (hy : ys.Pairwise fun x y => x.a ≤ y.a) : xs = ys := by
  unfold Asc at hx
  induction xs generalizing ys with
  | nil => exact (List.nil_perm.1 hp).symm
  | cons x xs ih =>
    cases ys with
    | nil => exact absurd hp.length_eq (by simp)
    | cons y ys =>
      rw [List.pairwise_cons] at hx hy
      have e : x = y := by
        rcases List.mem_cons.1 (hp.mem_iff.1 (List.mem_cons_self (a := x) (l := xs))) with e | m
        · exact e
        · rcases List.mem_cons.1 (hp.mem_iff.2 (List.mem_cons_self (a := y) (l := ys))) with e | m'
          · exact e.symm
          · have h1 := hx.1 y m'
            have h2 := hy.1 x m
            omega
      subst e
      rw [ih ((List.perm_cons x).1 hp) hx.2 hy.2]
theorem le_pair {ys : List Quad} {n : Nat} (hl : ys.length = n) (h : ∀ i j, i < j → j < n → (ys.getD i q0).a ≤ (ys.getD j q0).a) : ys.Pairwise fun x y => x.a ≤ y.a := by
  rw [List.pairwise_iff_getElem]
  intro i j hi hj hij
  have g := h i j hij (by omega)
  rwa [getD_get0 ys i hi, getD_get0 ys j hj] at g
/-- what stands in the place of those that are sorted -/
theorem put_sorted {ts ys : List Quad} {b : Quad} (ha : Asc ts) (hf : fnd ts b.a ts.length = -1) (hp : ys.Perm (ts ++ [b])) (hl : ys.length = ts.length + 1) (hs : ∀ i j, i < j → j < ts.length + 1 → (ys.getD i q0).a ≤ (ys.getD j q0).a) : ys = putV ts b := by
  have hne : ∀ x ∈ ts, x.a ≠ b.a := fun x hx => by
    obtain ⟨i, hi, rfl⟩ := List.mem_iff_getElem.1 hx
    have := (fnd_none0 ts b.a ts.length).1 hf i hi
    rwa [getD_get0 ts i hi] at this
  exact (srt_uniq ((put_perm ts b).trans hp.symm) (put_asc ha hne) (le_pair hl hs)).symm
theorem dv_asc_of {P : Int} {ts rs : List Quad} (h : dvV P ts rs = true) : Asc ts := by
  unfold dvV at h
  rw [Bool.and_eq_true, decide_eq_true_eq] at h
  exact asc_of h.2.1
theorem dv_lens {P : Int} {ts rs : List Quad} (h : dvV P ts rs = true) : ts.length ≤ 7 ∧ rs.length ≤ 5 := by
  unfold dvV dhV at h
  simp only [Bool.and_eq_true, decide_eq_true_eq] at h
  exact ⟨((bsV_iff0 ts).1 h.1.1.1.2).1, h.1.2⟩
/-- which of its answers a desk gives: 0 it is none; 1 refused; 2 taken; 3 waits -/
def askK (P : Int) (ts rs : List Quad) (b : Quad) : Nat :=
  if dvV P ts rs = false then 0
  else if bv b.a b.b b.c b.d = false then 1
  else if 0 ≤ fnd ts b.a ts.length then 1
  else if 0 ≤ fnd rs b.a rs.length then 1
  else if ctV P ts b = true then 2
  else if 5 ≤ rs.length then 1 else 3
def askP (P : Int) (k : Nat) : Int := if k = 0 then 0 else P
def askT (ts : List Quad) (b : Quad) (k : Nat) : List Quad := if k = 0 then [] else if k = 2 then putV ts b else ts
def askR (rs : List Quad) (b : Quad) (k : Nat) : List Quad := if k = 0 then [] else if k = 3 then rs ++ [b] else rs
def askN (k : Nat) : Int := if k = 2 then 1 else if k = 3 then 2 else 0
theorem ask_lens (ts rs : List Quad) (b : Quad) (k : Nat) : (askT ts b k).length ≤ ts.length + 1 ∧ (askR rs b k).length ≤ rs.length + 1 := by
  unfold askT askR
  constructor
  · split
    · simp
    · split
      · rw [put_len]; exact Nat.le_refl _
      · omega
  · split
    · simp
    · split
      · simp
      · omega
end Go.Proofs.Ytoiaggjjfahabaa
