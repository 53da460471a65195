/- Words for DeskAsk. No program in sight but its types. -/
import Derived.Test.YtoiaggjjfahabaaDkQ
import Derived.Test.YtoiaggjjfahabaaDkV
namespace Go.Proofs.Ytoiaggjjfahabaa
open Go.RowKit
set_option linter.unusedVariables false
/-- what DeskAsk hands back: a desk in memory of its own, and a number -/
def AskE (w : World) (P : Int) (ts rs : List Quad) (q : Quad) (K : Nat) (e : Ending) (w' : World) : Prop :=
  ∃ A n c B m d, e = .returned (.tuple #[.agg #[.int .i64 (askP P K), .slice A n c, .slice B m d], .int .i64 (askN K)]) ∧ OwnD w' w.heap.size w'.heap.size A n (askT ts q K) B m (askR rs q K) ∧ n ≤ 1048577 ∧ m ≤ 1048577 ∧ Below w.heap.size w w'
/-- the blocks that DeskAsk begins with -/
def A0 (w : World) (P : Int) (ga gb n m : Nat) (q : Quad) (w' : World) : Prop :=
  Below w.heap.size w w' ∧ Blk w' w.heap.size 38 #[.int .i64 P, .slice (some ⟨ga, 0, none⟩) n n, .slice (some ⟨gb, 0, none⟩) m m] ∧ Blk w' (w.heap.size + 1) 46 #[.int .i64 q.a, .int .i64 q.b, .int .i64 q.c, .int .i64 q.d] ∧ Blk w' (w.heap.size + 1 + 1) 38 #[.int .i64 0, .slice none 0 0, .slice none 0 0]
theorem A0.below {w w' w'' : World} {P : Int} {ga gb n m : Nat} {q : Quad} (h : A0 w P ga gb n m q w') (hb : Below w'.heap.size w' w'') : A0 w P ga gb n m q w'' :=
  ⟨bt h.1 hb, h.2.1.below hb h.2.1.lt, h.2.2.1.below hb h.2.2.1.lt, h.2.2.2.below hb h.2.2.2.lt⟩
/-- and the desk copied: in block g, its lists of the call's own from block z on -/
def AS1 (w : World) (P : Int) (ga gb n m : Nat) (q : Quad) (ts rs : List Quad) (z g : Nat) (A : Option Addr) (c : Nat) (B : Option Addr) (d : Nat) (w' : World) : Prop :=
  A0 w P ga gb n m q w' ∧ Blk w' g 38 #[.int .i64 P, .slice A n c, .slice B m d] ∧ w'.ownsRow z 46 4 (.slice A n c) n (ts.flatMap Quad.cells) ∧ w'.ownsRow z 46 4 (.slice B m d) m (rs.flatMap Quad.cells)
theorem AS1.below {w w' w'' : World} {P : Int} {ga gb n m z g c d : Nat} {q : Quad} {ts rs : List Quad} {A B : Option Addr} (h : AS1 w P ga gb n m q ts rs z g A c B d w') (hb : Below w'.heap.size w' w'') : AS1 w P ga gb n m q ts rs z g A c B d w'' :=
  ⟨h.1.below hb, h.2.1.below hb h.2.1.lt, own_below h.2.2.1 hb, own_below h.2.2.2 hb⟩
theorem OwnB.ne {w : World} {lo hi n : Nat} {A : Option Addr} {qs : List Quad} (h : OwnB w lo hi A n qs) {p : Addr} (hp : ∀ g, A = some ⟨g, 0, none⟩ → g ≠ p.block) (u : Value) : OwnB (w.setCell p u) lo hi A n qs :=
  ⟨h.1, h.2.imp id fun ⟨g, e, h1, h2, hR⟩ => ⟨g, e, h1, h2, hR.far (hp g e) u⟩⟩
theorem OwnB.far {w : World} {lo hi n : Nat} {A : Option Addr} {qs : List Quad} (h : OwnB w lo hi A n qs) {p : Addr} (hp : p.block < lo) (u : Value) : OwnB (w.setCell p u) lo hi A n qs :=
  ⟨h.1, h.2.imp id fun ⟨g, e, h1, h2, hR⟩ => ⟨g, e, h1, h2, hR.far (by omega) u⟩⟩
/-- behind the store of the result -/
theorem fin_own {w w' : World} {z n m t : Nat} {A B : Option Addr} {xs ys : List Quad} {u0 u1 u2 : Value} (hb : Below w.heap.size w w') (ht : w.heap.size ≤ t) (hz : t < z) (h1 : OwnB w' z w'.heap.size A n xs) (h2 : OwnB w' z w'.heap.size B m ys) (hap : A = none ∨ A ≠ B) :
    OwnD (((w'.setCell ⟨t, 0, none⟩ u0).setCell ⟨t, 1, none⟩ u1).setCell ⟨t, 2, none⟩ u2) w.heap.size (((w'.setCell ⟨t, 0, none⟩ u0).setCell ⟨t, 1, none⟩ u1).setCell ⟨t, 2, none⟩ u2).heap.size A n xs B m ys ∧
    Below w.heap.size w (((w'.setCell ⟨t, 0, none⟩ u0).setCell ⟨t, 1, none⟩ u1).setCell ⟨t, 2, none⟩ u2) := by
  have hs : (((w'.setCell ⟨t, 0, none⟩ u0).setCell ⟨t, 1, none⟩ u1).setCell ⟨t, 2, none⟩ u2).heap.size = w'.heap.size := by simp
  have hB := ((hb.setCell (p := ⟨t, 0, none⟩) ht u0).setCell (p := ⟨t, 1, none⟩) ht u1).setCell (p := ⟨t, 2, none⟩) ht u2
  rw [hs]
  exact ⟨OwnD.of_b ((((h1.far (p := ⟨t, 0, none⟩) hz u0).far (p := ⟨t, 1, none⟩) hz u1).far (p := ⟨t, 2, none⟩) hz u2).wide (by omega) (Nat.le_refl _)) ((((h2.far (p := ⟨t, 0, none⟩) hz u0).far (p := ⟨t, 1, none⟩) hz u1).far (p := ⟨t, 2, none⟩) hz u2).wide (by omega) (Nat.le_refl _)) hb.size hap, hB⟩
theorem withBook_p (A : Option Addr) (n cap : Nat) (qs : List Quad) (a b c d : Int) (w : World) (h : Books w A n qs) (hn : n ≤ 7) (ha : Asc qs) (hf : fnd qs a n = -1) :
    Calls Try.prog 46 #[.slice A n cap, .agg #[.int .i64 a, .int .i64 b, .int .i64 c, .int .i64 d]] w fun e w' => ∃ g cc, e = .returned (.slice (some ⟨g, 0, none⟩) (n + 1) cc) ∧ w.heap.size ≤ g ∧ Rq w' g (n + 1) (putV qs ⟨a, b, c, d⟩) ∧ Below w.heap.size w w' :=
  (withBook_j A n cap qs a b c d w h hn).mono fun e w' ⟨g, cc, ys, h1, h2, h3, h4, h5, h6, h7⟩ => by
    have hl := h.1
    have e1 : ys = putV qs ⟨a, b, c, d⟩ := put_sorted ha (by rw [hl]; exact hf) h4 (by rw [hl]; exact h3.1) (by rw [hl]; exact h5)
    subst e1
    exact ⟨g, cc, h1, h6, h3, h7⟩
theorem grow_ne {G2 G3 : Option Addr} {m c2 m3 d3 s g6 z : Nat} (L2 : G2 = none ∨ ∃ g, G2 = some ⟨g, 0, none⟩ ∧ z ≤ g ∧ g < g6) (hfr : (Value.slice G3 m3 d3).ownBlock = (Value.slice G2 m c2).ownBlock ∨ (Value.slice G3 m3 d3).ownBlock = some s) (hs : g6 < s) : ∀ g, G3 = some ⟨g, 0, none⟩ → g ≠ g6 ∧ (G2 = some ⟨g, 0, none⟩ ∨ g = s) := by
  intro g e
  subst e
  rcases hfr with h | h
  · rcases L2 with rfl | ⟨g2, rfl, _, _⟩
    · simp [Value.ownBlock] at h
    · simp [Value.ownBlock] at h
      subst h
      exact ⟨by omega, .inl rfl⟩
  · simp [Value.ownBlock] at h
    exact ⟨by omega, .inr h⟩
theorem row_ne {G : Option Addr} {m c z g6 k : Nat} (L : G = none ∨ ∃ g, G = some ⟨g, 0, none⟩ ∧ z ≤ g ∧ g < g6) (h : k < z ∨ g6 ≤ k) : some k ≠ (Value.slice G m c).ownBlock := by
  rcases L with rfl | ⟨g, rfl, _, _⟩
  · simp [Value.ownBlock]
  · simp [Value.ownBlock]; omega
theorem kept_ne {G1 G2 : Option Addr} {n c1 m c2 z g6 : Nat} (L1 : G1 = none ∨ ∃ g, G1 = some ⟨g, 0, none⟩ ∧ z ≤ g ∧ g < g6) (L2 : G2 = none ∨ ∃ g, G2 = some ⟨g, 0, none⟩ ∧ z ≤ g ∧ g < g6) (AP : G1 = none ∨ G1 ≠ G2) : (Value.slice G1 n c1).ownBlock = none ∨ (Value.slice G1 n c1).ownBlock ≠ (Value.slice G2 m c2).ownBlock := by
  rcases L1 with rfl | ⟨g, rfl, _, _⟩
  · left; simp [Value.ownBlock]
  · right
    rcases L2 with rfl | ⟨g', rfl, _, _⟩
    · simp [Value.ownBlock]
    · rcases AP with e | e
      · cases e
      · simp [Value.ownBlock]; intro q; exact e (by rw [q])
theorem blk_grown {w w' : World} {g : Nat} {t : TypeId} {cs : Array Value} {row : Option Nat} (h : Blk w g t cs) (hg : w.grownBy w' row) (hne : some g ≠ row) : Blk w' g t cs := (hg.block g h.lt hne).trans h
end Go.Proofs.Ytoiaggjjfahabaa
