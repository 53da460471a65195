/- MostPlan of the program: what it computes. Conditions: small numbers in the needs. -/
import Derived.Test.YtoiaggjjfahabaaDoorChg5
import Derived.Laws.CopyOwn
import Derived.Laws.CopyRow
namespace Go.Proofs.YtoiaggjjfahabaaDoor
open Go.RowKit
set_option linter.unusedVariables false
/-- small, and not negative -/
def Chs.sm (σ : Chs) : Prop := Bd σ.us ∧ (∀ k, Bd (σ.rss.getD k [])) ∧ Bd σ.cs
theorem Chs.sm.give {σ : Chs} (h : σ.sm) {i h' : Nat} {u : Int} (h0 : 0 ≤ u) (hu : u ≤ σ.top i h') : (σ.give i h' u).sm := by
  unfold Chs.top at hu
  refine ⟨fun k => ?_, fun k => ?_, fun k => ?_⟩
  · simp only [Chs.give]
    rw [getD_set]
    split
    · have := h.1 i; omega
    · exact h.1 k
  · simp only [Chs.give]
    rw [getD_set]
    split
    · intro j
      rw [getD_set]
      split
      · omega
      · exact h.2.1 i j
    · exact h.2.1 k
  · simp only [Chs.give]
    rw [getD_set]
    split
    · have := h.2.2 h'; omega
    · exact h.2.2 k
theorem Chs.sm.nxt {σ : Chs} (h : σ.sm) (ho : σ.ok) (i j : Nat) : (σ.nxt i j).sm := h.give (by omega) (ho.fst_le i j)
theorem Chs.sm.hrs {σ : Chs} (h : σ.sm) (ho : σ.ok) {i : Nat} (hi : i < σ.us.length) (j : Nat) (hj : j ≤ 6) : (σ.hrs i j).sm := by
  induction j with
  | zero => exact h
  | succ j ih => exact (ih (by omega)).nxt (ho.hrs_all hi j (by omega)).1 i j
theorem Chs.sm.cars {σ : Chs} (h : σ.sm) (ho : σ.ok) (i : Nat) (hi : i ≤ σ.us.length) : (σ.cars i).sm := by
  induction i with
  | zero => exact h
  | succ i ih =>
    have c := ho.cars_all i (by omega)
    exact (ih (by omega)).hrs c.1 (by rw [c.2.1]; omega) 6 (Nat.le_refl _)
theorem dnV_at (f : Nat → Int) (m : Int) (N : Nat) : (∀ u, dnV f m N < u → u ≤ N → f u < m) ∧ (dnV f m N = 0 ∨ ¬ f (dnV f m N) < m) := by
  induction N with
  | zero => exact ⟨fun u h1 h2 => by omega, .inl rfl⟩
  | succ N ih =>
    unfold dnV
    split
    · rename_i g
      refine ⟨fun u h1 h2 => ?_, ih.2⟩
      by_cases e : u = N + 1
      · subst e; exact g
      · exact ih.1 u h1 (by omega)
    · rename_i g
      exact ⟨fun u h1 h2 => by omega, .inr g⟩
/-- what is walked down to: above it too little is given, at it enough -/
theorem Chs.ok.fst_at {σ : Chs} (ho : σ.ok) (i j : Nat) : (∀ u : Nat, σ.fst i j < u → (u : Int) ≤ σ.top i j → (u : Int) + (σ.give i j u).F < σ.F) ∧ (σ.fst i j = 0 ∨ ¬ ((σ.fst i j : Int) + (σ.give i j (σ.fst i j)).F < σ.F)) := by
  have h := dnV_at (fun u => (u : Int) + (σ.give i j u).F) σ.F (σ.top i j).toNat
  have h0 := ho.top_nn i j
  exact ⟨fun u h1 h2 => h.1 u h1 (by omega), h.2⟩
theorem Chs.F_bd {σ : Chs} (h : σ.sm) (hn : σ.us.length ≤ 100) : 0 ≤ σ.F ∧ σ.F ≤ 106000 := leastTo_bd h.1 h.2.1 h.2.2 lastSet hn
/-- the memory of MostPlan: wanted, rates, left; and the plan's rows -/
structure MS (w0 w : World) (n gW gR gL gP : Nat) (bls pbl : List Nat) (σ : Chs) (plan : List (List Int)) : Prop where
  wn : Blk w gW 3 (ints σ.us)
  rt : Tbl w (w0.heap.size + 1) gR bls n σ.rss
  lf : Blk w gL 3 (ints σ.cs)
  pl : Tbl w gP gP pbl n plan
  bl : bls.length = n
  o1 : w0.heap.size ≤ gW
  o2 : gW < gR
  o3 : gR < gL
  o4 : ∀ k, k < n → bls.getD k 0 < gL
  o5 : gL < gP
  bw : Below w0.heap.size w0 w
section
variable {w0 w w' : World} {n gW gR gL gP : Nat} {bls pbl : List Nat} {σ : Chs} {plan : List (List Int)}
theorem MS.below (h : MS w0 w n gW gR gL gP bls pbl σ plan) (hb : Below w.heap.size w w') : MS w0 w' n gW gR gL gP bls pbl σ plan :=
  ⟨h.wn.below hb h.wn.lt, h.rt.below hb, h.lf.below hb h.lf.lt, h.pl.below hb, h.bl, h.o1, h.o2, h.o3, h.o4, h.o5, h.bw.trans (hb.mono h.bw.size)⟩
theorem MS.drewN (h : MS w0 w n gW gR gL gP bls pbl σ plan) (k : Nat) : MS w0 (w.drewN k) n gW gR gL gP bls pbl σ plan := h.below (bdN (Below.refl _ _) k)
/-- the three stores of a gift -/
theorem MS.give (h : MS w0 w n gW gR gL gP bls pbl σ plan) {i j : Nat} (hi : i < n) (u : Int) :
    MS w0 (((w.setCell ⟨bls.getD i 0, j, none⟩ (.int .i64 0)).setCell ⟨gW, i, none⟩ (.int .i64 (σ.us.getD i 0 - u))).setCell ⟨gL, j, none⟩ (.int .i64 (σ.cs.getD j 0 - u))) n gW gR gL gP bls pbl (σ.give i j u) plan := by
  have hib : i < bls.length := by rw [h.bl]; exact hi
  have b1 := h.rt.beh i hib
  have o1 := h.o1; have o2 := h.o2; have o3 := h.o3; have o4 := h.o4 i hi; have o5 := h.o5
  have t1 := h.rt.put hib (j := j) 0
  have pb : ∀ k, k < pbl.length → gP < pbl.getD k 0 := h.pl.beh
  refine ⟨((h.wn.far (by show gW ≠ bls.getD i 0; omega) _).int_set i _).far (by show gW ≠ gL; omega) _, ?_, ((h.lf.far (by show gL ≠ bls.getD i 0; omega) _).far (by show gL ≠ gW; omega) _).int_set j _, ?_, h.bl, h.o1, h.o2, h.o3, h.o4, h.o5, ?_⟩
  · refine (t1.far (by show gW ≠ gR; omega) (fun k hk => by have := h.rt.beh k hk; show gW ≠ bls.getD k 0; omega) _).far (by show gL ≠ gR; omega) (fun k hk => by have := h.o4 k (by rw [← h.bl]; exact hk); show gL ≠ bls.getD k 0; omega) _
  · refine ((h.pl.far (by show bls.getD i 0 ≠ gP; omega) (fun k hk => by have := pb k hk; show bls.getD i 0 ≠ _; omega) _).far (by show gW ≠ gP; omega) (fun k hk => by have := pb k hk; show gW ≠ _; omega) _).far (by show gL ≠ gP; omega) (fun k hk => by have := pb k hk; show gL ≠ _; omega) _
  · exact ((h.bw.setCell (by show w0.heap.size ≤ bls.getD i 0; omega) _).setCell (by show w0.heap.size ≤ gW; omega) _).setCell (by show w0.heap.size ≤ gL; omega) _
/-- one unit is taken back -/
theorem MS.back {i j u : Nat} (h : MS w0 w n gW gR gL gP bls pbl (σ.give i j ((u + 1 : Nat) : Int)) plan) (hi : i < n) {v1 v2 : Int} (e1 : v1 = σ.us.getD i 0 - u) (e2 : v2 = σ.cs.getD j 0 - u) :
    MS w0 ((w.setCell ⟨gW, i, none⟩ (.int .i64 v1)).setCell ⟨gL, j, none⟩ (.int .i64 v2)) n gW gR gL gP bls pbl (σ.give i j u) plan := by
  have o1 := h.o1; have o2 := h.o2; have o3 := h.o3; have o5 := h.o5
  have pb : ∀ k, k < pbl.length → gP < pbl.getD k 0 := h.pl.beh
  have w1 := (h.wn.int_set i v1).far (p := ⟨gL, j, none⟩) (by show gW ≠ gL; omega) (.int .i64 v2)
  have w2 := (h.lf.far (p := ⟨gW, i, none⟩) (by show gL ≠ gW; omega) (.int .i64 v1)).int_set j v2
  simp only [Chs.give, List.set_set] at w1 w2
  rw [e1] at w1
  rw [e2] at w2
  refine ⟨by rw [e1, e2] at *; exact w1, ?_, by rw [e1, e2] at *; exact w2, ?_, h.bl, h.o1, h.o2, h.o3, h.o4, h.o5, ?_⟩
  · exact (h.rt.far (by show gW ≠ gR; omega) (fun k hk => by have := h.rt.beh k hk; show gW ≠ bls.getD k 0; omega) _).far (by show gL ≠ gR; omega) (fun k hk => by have := h.o4 k (by rw [← h.bl]; exact hk); show gL ≠ bls.getD k 0; omega) _
  · exact (h.pl.far (by show gW ≠ gP; omega) (fun k hk => by have := pb k hk; show gW ≠ _; omega) _).far (by show gL ≠ gP; omega) (fun k hk => by have := pb k hk; show gL ≠ _; omega) _
  · exact (h.bw.setCell (by show w0.heap.size ≤ gW; omega) _).setCell (by show w0.heap.size ≤ gL; omega) _
/-- a number of the plan is set -/
theorem MS.putp (h : MS w0 w n gW gR gL gP bls pbl σ plan) {k j : Nat} (hk : k < pbl.length) (v : Int) :
    MS w0 (w.setCell ⟨pbl.getD k 0, j, none⟩ (.int .i64 v)) n gW gR gL gP bls pbl σ (plan.set k ((plan.getD k []).set j v)) := by
  have o1 := h.o1; have o2 := h.o2; have o3 := h.o3; have o5 := h.o5
  have pb := h.pl.beh k hk
  exact ⟨h.wn.far (by show gW ≠ pbl.getD k 0; omega) _, h.rt.far (by show pbl.getD k 0 ≠ gR; omega) (fun i hi => by have := h.o4 i (by rw [← h.bl]; exact hi); show pbl.getD k 0 ≠ bls.getD i 0; omega) _,
    h.lf.far (by show gL ≠ pbl.getD k 0; omega) _, h.pl.put hk v, h.bl, h.o1, h.o2, h.o3, h.o4, h.o5, h.bw.setCell (by show w0.heap.size ≤ pbl.getD k 0; omega) _⟩
/-- a row more for the plan: made behind the store -/
theorem MS.row (h : MS w0 w n gW gR gL gP bls pbl σ plan) {N : Nat} (hN : w.heap.size = N) (hk : pbl.length < n) :
    MS w0 ((w.setCell ⟨gP, pbl.length, none⟩ (.slice (some ⟨N, 0, none⟩) 6 6)).alloc (.cells (ints (List.replicate 6 0)) 3)) n gW gR gL gP bls (pbl ++ [N]) σ (plan ++ [List.replicate 6 0]) := by
  have o1 := h.o1; have o2 := h.o2; have o3 := h.o3; have o5 := h.o5
  have hgl := h.pl.outer.lt
  refine ⟨(h.wn.far (by show gW ≠ gP; omega) _).alloc _, (h.rt.far (by show gP ≠ gR; omega) (fun i hi => by have := h.o4 i (by rw [← h.bl]; exact hi); show gP ≠ bls.getD i 0; omega) _).alloc _, (h.lf.far (by show gL ≠ gP; omega) _).alloc _, ?_, h.bl, h.o1, h.o2, h.o3, h.o4, h.o5, (h.bw.setCell (by show w0.heap.size ≤ gP; omega) _).alloc (by have := h.bw.size; simp [World.setCell]; omega) _⟩
  have p := h.pl
  have hz : (List.replicate 6 (0 : Int)).length = 6 := by simp
  have hrl : ∀ k, k < pbl.length → pbl.getD k 0 < w.heap.size := fun k hk => (p.row k hk).lt
  have hb : Blk (((w.setCell ⟨gP, pbl.length, none⟩ (.slice (some ⟨N, 0, none⟩) 6 6)).alloc (.cells (ints (List.replicate 6 0)) 3))) N 3 (ints (List.replicate 6 0)) := by
    have := Blk.new (w.setCell ⟨gP, pbl.length, none⟩ (.slice (some ⟨N, 0, none⟩) 6 6)) 3 (ints (List.replicate 6 0))
    rwa [show (w.setCell ⟨gP, pbl.length, none⟩ (.slice (some ⟨N, 0, none⟩) 6 6)).heap.size = N by simp [World.setCell, hN]] at this
  refine ⟨by rw [← slis_set pbl n _ hk]; exact (p.outer.set_ _ _).alloc _, by simp [p.len], by simp; omega, fun k hk => ?_, fun k hk => ?_, p.low, fun k hk => ?_, fun j k hj hk => ?_⟩
  all_goals rw [List.length_append] at hk
  all_goals simp only [List.length_cons, List.length_nil] at hk
  all_goals by_cases e : k < pbl.length
  · rw [getD_append_lo _ _ _ _ e, getD_append_lo _ _ _ _ (by rw [p.len]; exact e)]
    exact ((p.row k e).far (by have := p.beh k e; show _ ≠ gP; omega) _).alloc _
  · rw [getD_append_at _ _ _ _ (by omega), getD_append_at _ _ _ _ (by rw [p.len]; omega)]; exact hb
  · rw [getD_append_lo _ _ _ _ (by rw [p.len]; exact e)]; exact p.six k e
  · rw [getD_append_at _ _ _ _ (by rw [p.len]; omega)]; exact hz
  · rw [getD_append_lo _ _ _ _ e]; exact p.beh k e
  · rw [getD_append_at _ _ _ _ (by omega)]; omega
  · rw [getD_append_lo _ _ _ _ e, getD_append_lo _ _ _ _ (by omega)]; exact p.inc j k hj e
  · rw [getD_append_at _ _ _ _ (by omega : k = pbl.length), getD_append_lo _ _ _ _ (by omega)]; have := hrl j (by omega); omega
end
end Go.Proofs.YtoiaggjjfahabaaDoor
