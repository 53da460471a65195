/- l20Charge: needs, a feed and a plan of rows of six small numbers; of memory only the reader's block changes. No condition. -/
import Derived.Test.YtoiaggjjfahabaaDoorChg18
import Derived.Test.YtoiaggjjfahabaaDoorDFed
import Derived.Deep.RegionLaw
namespace Go.Proofs.YtoiaggjjfahabaaDoor
open Go.RowKit
set_option linter.unusedVariables false
theorem ov_set (ob : List Nat) (i b : Nat) : (ov ob).set i (.slice (some ⟨b, 0, none⟩) 6 6) = ov (ob.set i b) := by
  unfold ov; rw [List.map_set]
section
variable {w w' : World} {B L g c k : Nat} {ob : List Nat} {rows : List (List Int)}
/-- another row is laid into the table -/
theorem OT.setrow (h : OT w B L g c k ob rows) {i b : Nat} {zs : List Int} (hi : i < k) (hb : Blk w b 3 (ints zs)) (hz : zs.length = 6) (hbg : b ≠ g) (hbL : L ≤ b) (hbo : ∀ j, j < k → j ≠ i → ob.getD j 0 ≠ b) :
    OT (w.setCell ⟨g, i, none⟩ (.slice (some ⟨b, 0, none⟩) 6 6)) B L g c k (ob.set i b) (rows.set i zs) := by
  have hol := h.ol
  have hrl := h.rl
  refine ⟨⟨by rw [← ov_set, List.length_set]; exact h.own.1, ?_⟩, by simp [hol], by simp [hrl], fun j hj => ?_, fun j hj => ?_, fun j hj => ?_, fun x y hx hy hne => ?_, fun j hj => ?_⟩
  · rcases h.own.2 with ⟨h0, _⟩ | ⟨g', c', cur, e1, hb', hg', hcc, hm, hsz, htk⟩
    · cases h0
    · simp only [Value.slice.injEq, Option.some.injEq, Addr.mk.injEq, and_true, true_and] at e1
      obtain ⟨rfl, rfl⟩ := e1
      have hB : Blk w g 28 cur := hg'
      refine .inr ⟨g, c, cur.setIfInBounds i (.slice (some ⟨b, 0, none⟩) 6 6), rfl, hb', hB.set_ i _, hcc, hm, by simpa using hsz, ?_⟩
      rw [Array.toList_setIfInBounds, ← ov_set, ← htk, List.take_set]
  · rw [getD_set, getD_set]
    by_cases e : i = j
    · subst e
      rw [if_pos ⟨rfl, by omega⟩, if_pos ⟨rfl, by omega⟩]
      exact hb.far (by show b ≠ g; exact hbg) _
    · rw [if_neg (fun q => e q.1), if_neg (fun q => e q.1)]
      exact (h.rr j hj).far (by show _ ≠ g; exact h.d1 j hj) _
  · rw [getD_set]
    split
    · exact hz
    · exact h.six j hj
  · rw [getD_set]
    split
    · exact hbg
    · exact h.d1 j hj
  · rw [getD_set, getD_set]
    by_cases e : i = x
    · subst e
      rw [if_pos ⟨rfl, by omega⟩, if_neg (fun q => hne q.1)]
      exact fun q => hbo y hy (fun e => hne e.symm) q.symm
    · rw [if_neg (fun q => e q.1)]
      by_cases e2 : i = y
      · subst e2
        rw [if_pos ⟨rfl, by omega⟩]
        exact hbo x hx (fun q => e q.symm)
      · rw [if_neg (fun q => e2 q.1)]; exact h.d2 x y hx hy hne
  · rw [getD_set]
    split
    · exact hbL
    · exact h.lo j hj
/-- a number of a row is set -/
theorem OT.put (h : OT w B L g c k ob rows) {i j : Nat} (hi : i < k) (v : Int) :
    OT (w.setCell ⟨ob.getD i 0, j, none⟩ (.int .i64 v)) B L g c k ob (rows.set i ((rows.getD i []).set j v)) := by
  have hrl := h.rl
  have h1 : OT (w.setCell ⟨ob.getD i 0, j, none⟩ (.int .i64 v)) B L g c k ob rows → True := fun _ => trivial
  refine ⟨own_keep h.own (Below.heap_setCell _ _ _ _ (by show g ≠ _; exact fun q => h.d1 i hi q.symm)), h.ol, by simp [hrl], fun x hx => ?_, fun x hx => ?_, h.d1, h.d2, h.lo⟩
  · rw [getD_set]
    by_cases e : i = x
    · subst e; rw [if_pos ⟨rfl, by omega⟩]; exact (h.rr i hi).int_set j v
    · rw [if_neg (fun q => e q.1)]; exact (h.rr x hx).far (by show _ ≠ ob.getD i 0; exact h.d2 x i hx hi (fun q => e q.symm)) _
  · rw [getD_set]
    split
    · rw [List.length_set]; exact h.six i hi
    · exact h.six x hx
theorem OT.stp {r : Nat} (h : OT w B L g c k ob rows) (hs : Stp r w w') (hB : r < B) (hL : r < L) : OT w' B L g c k ob rows :=
  h.keep (hs.2.2 g (by have := h.at_.1; omega) h.at_.2.1) fun i hi => hs.2.2 _ (by have := h.lo i hi; omega) (h.rr i hi).lt
theorem OT.lower (h : OT w B L g c k ob rows) {L' : Nat} (hL : L' ≤ L) : OT w B L' g c k ob rows := ⟨h.own, h.ol, h.rl, h.rr, h.six, h.d1, h.d2, fun i hi => Nat.le_trans hL (h.lo i hi)⟩
end
/-- rows of numbers that are not great -/
def Mid (rows : List (List Int)) : Prop := ∀ i j : Nat, 0 ≤ (rows.getD i []).getD j 0 ∧ (rows.getD i []).getD j 0 ≤ 1000
theorem Mid.set {rows : List (List Int)} (h : Mid rows) (i j : Nat) {v : Int} (h0 : 0 ≤ v) (h1 : v ≤ 1000) : Mid (rows.set i ((rows.getD i []).set j v)) := by
  intro x y
  rw [getD_set]
  split
  · rw [getD_set]
    split
    · exact ⟨h0, h1⟩
    · exact h i y
  · exact h x y
theorem Mid.row {rows : List (List Int)} (h : Mid rows) (i : Nat) {zs : List Int} (hz : ∀ j : Nat, 0 ≤ zs.getD j 0 ∧ zs.getD j 0 ≤ 1000) : Mid (rows.set i zs) := by
  intro x y
  rw [getD_set]
  split
  · exact hz y
  · exact h x y
/-- the state of the draw: the reader; the plan's rows -/
structure CS (w0 w : World) (r B' g c k : Nat) (ob : List Nat) (rows : List (List Int)) : Prop where
  rb : RB w r B'
  st : Stp r w0 w
  ot : OT w w0.heap.size w0.heap.size g c k ob rows
  lt : r < w0.heap.size
section
variable {w0 w w' : World} {r B' B2 g c k : Nat} {ob : List Nat} {rows : List (List Int)}
theorem CS.step (h : CS w0 w r B' g c k ob rows) (hr : RB w' r B2) (hs : Stp r w w') : CS w0 w' r B2 g c k ob rows := ⟨hr, h.st.trans hs, h.ot.stp hs h.lt h.lt, h.lt⟩
theorem CS.le (h : CS w0 w r B' g c k ob rows) (hB : B' ≤ B2) : CS w0 w r B2 g c k ob rows := ⟨h.rb.le hB, h.st, h.ot, h.lt⟩
theorem CS.below (h : CS w0 w r B' g c k ob rows) (hb : Below w.heap.size w w') : CS w0 w' r B' g c k ob rows := h.step (h.rb.below hb) (Stp.of_below hb (Nat.le_of_lt h.rb.lt))
theorem CS.put (h : CS w0 w r B' g c k ob rows) {i j : Nat} (hi : i < k) (v : Int) : CS w0 (w.setCell ⟨ob.getD i 0, j, none⟩ (.int .i64 v)) r B' g c k ob (rows.set i ((rows.getD i []).set j v)) := by
  have hl := h.ot.lo i hi
  have hrl := h.lt
  exact ⟨h.rb.far (by omega) _ _, h.st.far hl (by omega) _ _, h.ot.put hi v, h.lt⟩
theorem CS.setrow (h : CS w0 w r B' g c k ob rows) {i b : Nat} {zs : List Int} (hi : i < k) (hb : Blk w b 3 (ints zs)) (hz : zs.length = 6) (hbg : b ≠ g) (hbL : w0.heap.size ≤ b) (hbo : ∀ j, j < k → j ≠ i → ob.getD j 0 ≠ b) :
    CS w0 (w.setCell ⟨g, i, none⟩ (.slice (some ⟨b, 0, none⟩) 6 6)) r B' g c k (ob.set i b) (rows.set i zs) := by
  have hl := h.ot.at_.1
  have hrl := h.lt
  exact ⟨h.rb.far (by omega) _ _, h.st.far hl (by omega) _ _, h.ot.setrow hi hb hz hbg hbL hbo, h.lt⟩
end
/-- drawn needs, a feed and a plan -/
def CG (w : World) (r B' : Nat) (e : Ending) (w' : World) : Prop :=
  ∃ A k c qs G m d zs P np cp rows, e = .returned (.tuple #[.slice A k c, .slice G m d, .slice P np cp]) ∧ (∀ w2, Stp r w' w2 → Books w2 A k qs) ∧ (∀ w2, Stp r w' w2 → Ints w2 G m zs) ∧ (∀ w2, Stp r w' w2 → Tabs w2 P np rows) ∧
    k ≤ 9 ∧ k ≤ c ∧ c ≤ maxLen ∧ m ≤ 7 ∧ m ≤ d ∧ d ≤ maxLen ∧ np ≤ 9 ∧ np ≤ cp ∧ cp ≤ maxLen ∧ (∀ i, i < np → (rows.getD i []).length = 6) ∧ Mid rows ∧ (∀ q ∈ qs, SmQ q) ∧ (∀ z ∈ zs, Sm z) ∧ RB w' r B' ∧ Stp r w w'
end Go.Proofs.YtoiaggjjfahabaaDoor
