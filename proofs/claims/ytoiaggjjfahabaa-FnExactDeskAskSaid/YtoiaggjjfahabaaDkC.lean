/- copyDesk: what it computes. Condition: short lists. -/
import Derived.Test.YtoiaggjjfahabaaDkP
namespace Go.Proofs.Ytoiaggjjfahabaa
open Go.RowKit
set_option linter.unusedVariables false
/-- a desk copied -/
def CopyE (w : World) (P : Int) (n : Nat) (ts : List Quad) (m : Nat) (rs : List Quad) (e : Ending) (w' : World) : Prop :=
  ∃ A c B d, e = .returned (.agg #[.int .i64 P, .slice A n c, .slice B m d]) ∧ w'.ownsRow w.heap.size 46 4 (.slice A n c) n (ts.flatMap Quad.cells) ∧ w'.ownsRow w.heap.size 46 4 (.slice B m d) m (rs.flatMap Quad.cells) ∧ (A = none ∨ A ≠ B) ∧ Below w.heap.size w w'
theorem Clone_sl (A : Option Addr) (n cap : Nat) (qs : List Quad) (w : World) (h : Books w A n qs) (hn : n ≤ 1048576) :
    Calls Try.prog 55 #[.slice A n cap] w fun e w' => ∃ A1 c1, e = .returned (.slice A1 n c1) ∧ w'.ownsRow w.heap.size 46 4 (.slice A1 n c1) n (qs.flatMap Quad.cells) ∧ Below w.heap.size w w' :=
  (Clone_all A n cap qs w h hn).mono fun e w' ⟨v, he, ho, hb⟩ => by
    obtain ⟨A1, c1, rfl, _⟩ := own_b ho h.1
    exact ⟨A1, c1, he, ho, hb⟩
theorem own_below {B n : Nat} {v : Value} {xs : List Value} {w w' : World} {e k : Nat} (h : w.ownsRow B e k v n xs) (hb : Below w.heap.size w w') : w'.ownsRow B e k v n xs :=
  ⟨h.1, h.2.imp id fun ⟨g, cap, cur, e1, h1, hg, r⟩ => ⟨g, cap, cur, e1, h1, (hb.block g (by
    rcases Nat.lt_or_ge g w.heap.size with q | q
    · exact q
    · rw [Array.getElem?_eq_none q] at hg; cases hg)).trans hg, r⟩⟩
theorem own_mono {B B' n : Nat} {v : Value} {xs : List Value} {w : World} {e k : Nat} (h : w.ownsRow B e k v n xs) (hb : B' ≤ B) : w.ownsRow B' e k v n xs :=
  ⟨h.1, h.2.imp id fun ⟨g, cap, cur, e1, h1, r⟩ => ⟨g, cap, cur, e1, Nat.le_trans hb h1, r⟩⟩
theorem own_lt {B n c : Nat} {A : Option Addr} {xs : List Value} {w : World} {e k : Nat} (h : w.ownsRow B e k (.slice A n c) n xs) : A = none ∨ ∃ g, A = some ⟨g, 0, none⟩ ∧ B ≤ g ∧ g < w.heap.size := by
  rcases h.2 with ⟨e1, _⟩ | ⟨g, cap, cur, e1, h1, hg, _⟩
  · cases e1; exact .inl rfl
  · cases e1
    refine .inr ⟨g, rfl, h1, ?_⟩
    rcases Nat.lt_or_ge g w.heap.size with q | q
    · exact q
    · rw [Array.getElem?_eq_none q] at hg; cases hg
theorem own_apart {B1 B2 n c m d : Nat} {A B : Option Addr} {xs ys : List Value} {w1 w2 : World} {e k : Nat} (h : w1.ownsRow B1 e k (.slice A n c) n xs) (h' : w2.ownsRow B2 e k (.slice B m d) m ys) (hB : w1.heap.size ≤ B2) : A = none ∨ A ≠ B := by
  rcases own_lt h with e1 | ⟨g, rfl, _, hg⟩
  · exact .inl e1
  · right
    rcases own_lt h' with rfl | ⟨g', rfl, hg', _⟩
    · intro q; cases q
    · intro q; cases q; omega
set_option maxRecDepth 100000 in
set_option maxHeartbeats 2000000 in
theorem copyDesk_i (P : Int) (A B : Option Addr) (n cap m cap2 : Nat) (ts rs : List Quad) (w : World) (hA : Books w A n ts) (hB : Books w B m rs) (hn : n ≤ 1048576) (hm : m ≤ 1048576) :
    Calls Try.prog 45 #[.agg #[.int .i64 P, .slice A n cap, .slice B m cap2]] w (CopyE w P n ts m rs) := by
  have hb0 : Below w.heap.size w ((w.alloc (.cells #[.int .i64 P, .slice A n cap, .slice B m cap2] 38)).alloc (.cells #[.int .i64 0, .slice none 0 0, .slice none 0 0] 38)) := by (repeat (first | exact Below.refl _ _ | assumption | refine Below.alloc ?_ (by first | omega | (simp; done) | (simp; omega)) _ | refine Below.drew ?_ | refine bdN ?_ _ | refine Below.setCell ?_ (by first | omega | (simp; done) | (simp; omega)) _))
  have bX := (Blk.new w 38 #[.int .i64 P, .slice A n cap, .slice B m cap2]).alloc (.cells #[.int .i64 0, .slice none 0 0, .slice none 0 0] 38)
  have bY := Blk.new (w.alloc (.cells #[.int .i64 P, .slice A n cap, .slice B m cap2] 38)) 38 #[.int .i64 0, .slice none 0 0, .slice none 0 0]
  rw [show (w.alloc (.cells #[.int .i64 P, .slice A n cap, .slice B m cap2] 38)).heap.size = w.heap.size + 1 by simp] at bY
  have C1 := Lib.hid (fun w' (hb : Below w.heap.size w w') => Clone_sl A n cap ts w' (hA.below hb) hn)
  have C2 := Lib.hid (fun w' (hb : Below w.heap.size w w') => Clone_sl B m cap2 rs w' (hB.below hb) hm)
  clear hA hB
  go_enter Try.func45, Try.ntmps45
  go_upto_region 1 with fail
  generalize ((w.alloc (.cells #[.int .i64 P, .slice A n cap, .slice B m cap2] 38)).alloc (.cells #[.int .i64 0, .slice none 0 0, .slice none 0 0] 38)) = W at *
  have k0 := bX.cell 0
  have k1 := bX.cell 1
  have k2 := bX.cell 2
  simp at k0 k1 k2
  have l1 := bX.lt
  have l2 := bY.lt
  have HW := Lib.hid hb0
  have HY := Lib.hid bY
  clear hb0 bX bY
  go_region_held3 (fun w' => Below (w.heap.size + 1) (W) w' ∧ ∀ k o, k < w.heap.size + 1 → w'.cell? ⟨k, o, none⟩ = World.cell? (W) ⟨k, o, none⟩) (first | (first | assumption | exact kp_start | (refine kp_step ?_ hb ?_; assumption; (first | omega | (simp; done) | (simp; omega))) | (refine kp_drew ?_; assumption) | (refine kp_drew (kp_of hb ?_); (first | omega | (simp; done) | (simp; omega)))) | (refine kp_set (kp_set (kp_set ?_ ?_ _) ?_ _) ?_ _; (assumption); (simp); (simp); (simp))) (first
    | (go_at_call 55; refine (C1.out _ (kp_end (by assumption) HW.out (by omega))).mono ?_; rintro e w1 ⟨A1, c1, rfl, ho1, hb⟩; have Hb1 := Lib.hid hb; clear C1)
    | (go_at_call 55; refine (C2.out _ (kp_end (by assumption) HW.out (by omega))).mono ?_; rintro e w2 ⟨B1, c2, rfl, ho2, hb⟩; have Hb2 := Lib.hid hb; have b2 := (HY.out.drew.below Hb1.out l2).below hb (HY.out.drew.below Hb1.out l2).lt; have y0 := b2.cell 0; have y1 := b2.cell 1; have y2 := b2.cell 2; have z0 := b2.frozen 0; have z1 := b2.frozen 1; have z2 := b2.frozen 2))
  all_goals
    have q2 := ((b2.set_ 0 (.int .i64 P)).set_ 1 (.slice A1 n c1)).set_ 2 (.slice B1 m c2)
    have f0 := q2.cell 0
    have f1 := q2.cell 1
    have f2 := q2.cell 2
    simp only [List.setIfInBounds_toArray, List.set_cons_zero, List.set_cons_succ, List.getElem?_toArray, List.getElem?_cons_succ, List.getElem?_cons_zero] at f0 f1 f2
    have o1 := own_mono (ownsRow_setCell_below (ownsRow_setCell_below (ownsRow_setCell_below (own_below ho1 Hb2.out) (a := ⟨w.heap.size + 1, 0, none⟩) l2 (.int .i64 P)) (a := ⟨w.heap.size + 1, 1, none⟩) l2 (.slice A1 n c1)) (a := ⟨w.heap.size + 1, 2, none⟩) l2 (.slice B1 m c2)) HW.out.size
    have o2 := own_mono (ownsRow_setCell_below (ownsRow_setCell_below (ownsRow_setCell_below ho2 (a := ⟨w.heap.size + 1, 0, none⟩) (Nat.lt_of_lt_of_le l2 Hb1.out.size) (.int .i64 P)) (a := ⟨w.heap.size + 1, 1, none⟩) (Nat.lt_of_lt_of_le l2 Hb1.out.size) (.slice A1 n c1)) (a := ⟨w.heap.size + 1, 2, none⟩) (Nat.lt_of_lt_of_le l2 Hb1.out.size) (.slice B1 m c2)) (Nat.le_trans HW.out.size Hb1.out.size)
    have H1 := Lib.hid o1
    have H2 := Lib.hid o2
    have H3 := Lib.hid (own_apart ho1 ho2 (Nat.le_refl _))
    have H4 := Lib.hid (bt (HW.out.drew.trans (Hb1.out.mono HW.out.size)) Hb2.out)
    clear o1 o2 ho1 ho2 b2 q2
    go_wp2
    refine bodyPost_ret (v := .agg #[.int .i64 P, .slice A1 n c1, .slice B1 m c2]) (by simp [results, Try.results45, go_sem, f0, f1, f2]) rfl ⟨A1, c1, B1, c2, rfl, H1.out, H2.out, H3.out, ?_⟩
    repeat (first | exact H4.out | refine Below.setCell ?_ (by simp) _)
end Go.Proofs.Ytoiaggjjfahabaa
