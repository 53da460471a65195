/- Desks in memory of the call's own: copied, marked, held. Condition: short lists. -/
import Derived.Test.YtoiaggjjfahabaaDkW
import Derived.Test.YtoiaggjjfahabaaDkO
import Derived.Test.YtoiaggjjfahabaaPAsk
namespace Go.Proofs.Ytoiaggjjfahabaa
open Go.RowKit
set_option linter.unusedVariables false
/-- the slice (A, n) is nil and empty, or begins a block between lo and hi that begins with qs -/
def OwnB (w : World) (lo hi : Nat) (A : Option Addr) (n : Nat) (qs : List Quad) : Prop :=
  qs.length = n ∧ ((A = none ∧ n = 0) ∨ ∃ g, A = some ⟨g, 0, none⟩ ∧ lo ≤ g ∧ g < hi ∧ Rq w g n qs)
theorem own_b {w : World} {base n : Nat} {v : Value} {qs : List Quad} (h : w.ownsRow base 46 4 v n (qs.flatMap Quad.cells)) (hq : qs.length = n) : ∃ A c, v = .slice A n c ∧ n ≤ c ∧ c ≤ maxLen ∧ OwnB w base w.heap.size A n qs := by
  have hh := h
  rcases h.2 with ⟨rfl, rfl⟩ | ⟨g, cap, cur, rfl, hb, hg, hc, hm, _⟩
  · exact ⟨none, 0, rfl, Nat.le_refl _, by simp [maxLen], hq, .inl ⟨rfl, rfl⟩⟩
  · refine ⟨_, cap, rfl, hc, hm, hq, .inr ⟨g, rfl, hb, ?_, (Rq.of_own hh hq).1⟩⟩
    rcases Nat.lt_or_ge g w.heap.size with h1 | h1
    · exact h1
    · rw [Array.getElem?_eq_none h1] at hg; cases hg
theorem OwnB.below {w w' : World} {lo hi n : Nat} {A : Option Addr} {qs : List Quad} (h : OwnB w lo hi A n qs) (hb : Below w.heap.size w w') : OwnB w' lo hi A n qs :=
  ⟨h.1, h.2.imp id fun ⟨g, e, h1, h2, hR⟩ => ⟨g, e, h1, h2, hR.below hb hR.lt⟩⟩
theorem OwnB.wide {w : World} {lo hi lo' hi' n : Nat} {A : Option Addr} {qs : List Quad} (h : OwnB w lo hi A n qs) (h1 : lo' ≤ lo) (h2 : hi ≤ hi') : OwnB w lo' hi' A n qs :=
  ⟨h.1, h.2.imp id fun ⟨g, e, k1, k2, hR⟩ => ⟨g, e, by omega, by omega, hR⟩⟩
theorem OwnB.books {w : World} {lo hi n : Nat} {A : Option Addr} {qs : List Quad} (h : OwnB w lo hi A n qs) : Books w A n qs := by
  rcases h.2 with ⟨rfl, rfl⟩ | ⟨g, rfl, _, _, hR⟩
  · exact ⟨h.1, fun g => absurd g (by omega)⟩
  · exact hR.books
/-- two lists of bookings in blocks apart, between lo and hi -/
def OwnD (w : World) (lo hi : Nat) (A : Option Addr) (n : Nat) (ts : List Quad) (B : Option Addr) (m : Nat) (rs : List Quad) : Prop :=
  ∃ l h l' h', lo ≤ l ∧ h ≤ hi ∧ lo ≤ l' ∧ h' ≤ hi ∧ (h ≤ l' ∨ h' ≤ l) ∧ l ≤ h ∧ l' ≤ h' ∧ OwnQ w l h A n ts ∧ OwnQ w l' h' B m rs
theorem OwnD.of_b {w : World} {lo hi n m : Nat} {A B : Option Addr} {ts rs : List Quad} (a : OwnB w lo hi A n ts) (b : OwnB w lo hi B m rs) (hlh : lo ≤ hi) (hne : A = none ∨ A ≠ B) : OwnD w lo hi A n ts B m rs := by
  obtain ⟨a1, a2⟩ := a
  obtain ⟨b1, b2⟩ := b
  rcases a2 with ⟨rfl, rfl⟩ | ⟨g, rfl, g1, g2, gR⟩
  · rcases b2 with ⟨rfl, rfl⟩ | ⟨g', rfl, g1', g2', gR'⟩
    · exact ⟨lo, lo, lo, lo, by omega, by omega, by omega, by omega, by omega, by omega, by omega, ⟨a1, fun h => absurd h (by omega)⟩, ⟨b1, fun h => absurd h (by omega)⟩⟩
    · exact ⟨lo, lo, g', g' + 1, by omega, by omega, by omega, by omega, by omega, by omega, by omega, ⟨a1, fun h => absurd h (by omega)⟩, ⟨b1, fun h => ⟨g', rfl, by omega, by omega, gR'⟩⟩⟩
  · rcases b2 with ⟨rfl, rfl⟩ | ⟨g', rfl, g1', g2', gR'⟩
    · exact ⟨g, g + 1, lo, lo, by omega, by omega, by omega, by omega, by omega, by omega, by omega, ⟨a1, fun h => ⟨g, rfl, by omega, by omega, gR⟩⟩, ⟨b1, fun h => absurd h (by omega)⟩⟩
    · have hgg : g ≠ g' := by
        rcases hne with e | e
        · cases e
        · intro q; subst q; exact e rfl
      exact ⟨g, g + 1, g', g' + 1, by omega, by omega, by omega, by omega, by omega, by omega, by omega, ⟨a1, fun h => ⟨g, rfl, by omega, by omega, gR⟩⟩, ⟨b1, fun h => ⟨g', rfl, by omega, by omega, gR'⟩⟩⟩
section
variable {w w' : World} {lo hi l0 h0 n m : Nat} {A B : Option Addr} {ts rs : List Quad}
theorem OwnD.left (a : OwnD w lo hi A n ts B m rs) : Books w A n ts := by obtain ⟨_, _, _, _, _, _, _, _, _, _, _, q, _⟩ := a; exact q.books
theorem OwnD.right (a : OwnD w lo hi A n ts B m rs) : Books w B m rs := by obtain ⟨_, _, _, _, _, _, _, _, _, _, _, _, q⟩ := a; exact q.books
theorem OwnD.below (a : OwnD w lo hi A n ts B m rs) (hb : Below w.heap.size w w') : OwnD w' lo hi A n ts B m rs := by
  obtain ⟨l, h, l', h', c1, c2, c3, c4, c5, c6, c7, q, q'⟩ := a
  exact ⟨l, h, l', h', c1, c2, c3, c4, c5, c6, c7, q.below hb, q'.below hb⟩
theorem OwnD.chg (a : OwnD w l0 h0 A n ts B m rs) (c : Chg lo hi w w') (hd : h0 ≤ lo ∨ hi ≤ l0) : OwnD w' l0 h0 A n ts B m rs := by
  obtain ⟨l, h, l', h', c1, c2, c3, c4, c5, c6, c7, q, q'⟩ := a
  exact ⟨l, h, l', h', c1, c2, c3, c4, c5, c6, c7, q.chg c (by omega), q'.chg c (by omega)⟩
theorem chg_wide (c : Chg l0 h0 w w') (h1 : lo ≤ l0) (h2 : h0 ≤ hi) : Chg lo hi w w' := ⟨c.os, c.tape, c.output, c.size, fun k hk hd => c.block k hk (by omega)⟩
theorem chg_tr {w2 : World} (c : Chg lo hi w w') (d : Chg lo hi w' w2) : Chg lo hi w w2 :=
  ⟨d.os.trans c.os, d.tape.trans c.tape, d.output.trans c.output, Nat.le_trans c.size d.size, fun k hk hd => (d.block k (Nat.lt_of_lt_of_le hk c.size) hd).trans (c.block k hk hd)⟩
theorem chg_alloc (o : Obj) : Chg lo hi w (w.alloc o) := by
  have hb := (Below.refl w.heap.size w).alloc (Nat.le_refl _) o
  exact ⟨hb.os, hb.tape, hb.output, hb.size, fun k hk _ => hb.block k hk⟩
end
def MarkD (w : World) (lo hi : Nat) (A : Option Addr) (n : Nat) (B : Option Addr) (m : Nat) (k : Int) (e : Ending) (w' : World) : Prop :=
  e = .returned (.int .i64 (k + 4 * n + 4 * m)) ∧ OwnD w' lo hi A n (mqs k n) B m (mqs (k + 4 * n) m) ∧ Chg lo hi w w'
set_option maxHeartbeats 1000000 in
theorem markDesk_any (P : Int) (A B : Option Addr) (n m c1 c2 lo hi : Nat) (ts rs : List Quad) (k : Int) (w : World) (h : OwnD w lo hi A n ts B m rs) (hhi : hi ≤ w.heap.size) (hn : n ≤ 1048586) (hm : m ≤ 1048586) (h0 : 0 ≤ k) (h1 : k + 4 * n ≤ 16777216) :
    Calls Try.prog 23 #[.agg #[.int .i64 P, .slice A n c1, .slice B m c2], .int .i64 k] w (MarkD w lo hi A n B m k) := by
  have hCa := chg_alloc (w := w) (lo := lo) (hi := hi) (.cells #[.int .i64 P, .slice A n c1, .slice B m c2] 38)
  have h' := h.below ((Below.refl w.heap.size w).alloc (Nat.le_refl _) (.cells #[.int .i64 P, .slice A n c1, .slice B m c2] 38))
  have bX := Blk.new w 38 #[.int .i64 P, .slice A n c1, .slice B m c2]
  obtain ⟨l, r, l', r', d1, d2, d3, d4, d5, d6, d7, q, q'⟩ := h'
  have M1 := Lib.hid (markBookS_any A n c1 l r ts k _ q hn h0 (by omega))
  clear h
  go_enter Try.func23, Try.ntmps23
  go_wp2_with fail
  generalize (w.alloc (.cells #[.int .i64 P, .slice A n c1, .slice B m c2] 38)) = W at *
  refine M1.out.mono ?_
  rintro e w1 ⟨rfl, o1, g1⟩
  have bX1 : Blk w1 w.heap.size 38 #[.int .i64 P, .slice A n c1, .slice B m c2] := (g1.block _ bX.lt (by omega)).trans bX
  have k2 := bX1.cell 2
  simp at k2
  have M2 := Lib.hid (markBookS_any B m c2 l' r' rs (k + 4 * n) w1 (q'.chg g1 (by omega)) hm (by omega) h1)
  have H := Lib.hid (chg_tr hCa (chg_wide g1 d1 d2))
  have HO := Lib.hid o1
  clear M1 q q' bX hCa o1 g1 bX1
  go_wp2_with fail
  refine M2.out.mono ?_
  rintro e w2 ⟨rfl, o2, g2⟩
  have HF := Lib.hid (show OwnD w2 lo hi A n (mqs k n) B m (mqs (k + 4 * n) m) from ⟨l, r, l', r', d1, d2, d3, d4, d5, d6, d7, HO.out.chg g2 (by omega), o2⟩)
  have HC := Lib.hid (chg_tr H.out (chg_wide g2 d3 d4))
  clear M2 o2 g2
  go_wp2
  go_ret
  exact ⟨rfl, HF.out, HC.out⟩
set_option maxHeartbeats 1000000 in
theorem heldDesk_any (P : Int) (A B : Option Addr) (n m c1 c2 : Nat) (k : Int) (w : World) (h : Books w A n (mqs k n)) (h' : Books w B m (mqs (k + 4 * n) m)) (hn : n ≤ 1048586) (hm : m ≤ 1048586) (h0 : 0 ≤ k) (h1 : k + 4 * n ≤ 16777216) :
    Calls Try.prog 24 #[.agg #[.int .i64 P, .slice A n c1, .slice B m c2], .int .i64 k] w fun e w' => e = .returned (.int .i64 (k + 4 * n + 4 * m)) ∧ Below w.heap.size w w' := by
  have M1 := Lib.hid (fun w' (hb : Below w.heap.size w w') => heldBookS_any A n c1 k w' (h.below hb) hn h0 (by omega))
  have M2 := Lib.hid (fun w' (hb : Below w.heap.size w w') => heldBookS_any B m c2 (k + 4 * n) w' (h'.below hb) hm (by omega) h1)
  have bX := Blk.new w 38 #[.int .i64 P, .slice A n c1, .slice B m c2]
  have hB0 : Below w.heap.size w (w.alloc (.cells #[.int .i64 P, .slice A n c1, .slice B m c2] 38)) := by (repeat (first | exact Below.refl _ _ | assumption | refine Below.alloc ?_ (by first | omega | (simp; done) | (simp; omega)) _ | refine Below.drew ?_ | refine bdN ?_ _ | refine Below.setCell ?_ (by first | omega | (simp; done) | (simp; omega)) _))
  clear h h'
  go_enter Try.func24, Try.ntmps24
  go_wp2_with fail
  generalize (w.alloc (.cells #[.int .i64 P, .slice A n c1, .slice B m c2] 38)) = W at *
  refine (M1.out _ hB0).mono ?_
  rintro e w1 ⟨rfl, hb⟩
  replace bX := bX.below hb bX.lt
  have k2 := bX.cell 2
  simp at k2
  have H1 := Lib.hid (bt hB0 hb)
  have n1 : 0 ≤ k + 4 * (n : Int) := by omega
  obtain ⟨z, hz⟩ : ∃ z : Int, k + 4 * (n : Int) = z := ⟨_, rfl⟩
  rw [hz] at M2 n1 ⊢
  have HZ := Lib.hid hz
  clear hB0 hb hz
  go_wp2_with fail
  refine (M2.out _ H1.out).mono ?_
  rintro e w2 ⟨rfl, hb⟩
  have n2 : 0 ≤ z + 4 * (m : Int) := by omega
  go_wp2
  go_ret
  exact ⟨ret_int (by rw [HZ.out]), bt H1.out hb⟩
end Go.Proofs.Ytoiaggjjfahabaa
