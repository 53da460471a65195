/- The law's own functions on desks: what toDesk, szDesk, eqDesk compute. Condition: short lists. -/
import Derived.Test.YtoiaggjjfahabaaMarkB
namespace Go.Proofs.Ytoiaggjjfahabaa
open Go.RowKit
set_option linter.unusedVariables false
/-- a desk in new memory -/
def MadeD (w : World) (P : Int) (n m : Nat) (ts rs : List Quad) (e : Ending) (w' : World) : Prop :=
  ∃ g g', e = .returned (.agg #[.int .i64 P, .slice (some ⟨g, 0, none⟩) n n, .slice (some ⟨g', 0, none⟩) m m]) ∧ w.heap.size ≤ g ∧ g < g' ∧ Rq w' g n ts ∧ Rq w' g' m rs ∧ Below w.heap.size w w'
set_option maxHeartbeats 1000000 in
theorem toDesk_any (P : Int) (A B : Option Addr) (n cap m cap2 : Nat) (ts rs : List Quad) (w : World) (hA : Books w A n ts) (hB : Books w B m rs) (hn : n ≤ 1048576) (hm : m ≤ 1048576) :
    Calls Try.prog 17 #[.agg #[.int .i64 P, .slice A n cap, .slice B m cap2]] w (MadeD w P n m ts rs) := by
  have HA := Lib.hid hA
  have HB := Lib.hid hB
  clear hA hB
  go_enter Try.func17, Try.ntmps17
  go_wp2_with fail
  have b1 := ((Blk.new w 34 #[.int .i64 P, .slice A n cap, .slice B m cap2]).alloc (.cells #[.int .i64 0, .slice none 0 0, .slice none 0 0] 38)).alloc (.cells #[.int .i64 P, .slice none 0 0, .slice none 0 0] 38)
  have b2 := (Blk.new (w.alloc (.cells #[.int .i64 P, .slice A n cap, .slice B m cap2] 34)) 38 #[.int .i64 0, .slice none 0 0, .slice none 0 0]).alloc (.cells #[.int .i64 P, .slice none 0 0, .slice none 0 0] 38)
  have b3 := Blk.new ((w.alloc (.cells #[.int .i64 P, .slice A n cap, .slice B m cap2] 34)).alloc (.cells #[.int .i64 0, .slice none 0 0, .slice none 0 0] 38)) 38 #[.int .i64 P, .slice none 0 0, .slice none 0 0]
  have hB0 : Below w.heap.size w (((w.alloc (.cells #[.int .i64 P, .slice A n cap, .slice B m cap2] 34)).alloc (.cells #[.int .i64 0, .slice none 0 0, .slice none 0 0] 38)).alloc (.cells #[.int .i64 P, .slice none 0 0, .slice none 0 0] 38)) := by (repeat (first | exact Below.refl _ _ | assumption | refine Below.alloc ?_ (by first | omega | (simp; done) | (simp; omega)) _ | refine Below.drew ?_ | refine bdN ?_ _ | refine Below.setCell ?_ (by first | omega | (simp; done) | (simp; omega)) _))
  rw [show (w.alloc (.cells #[.int .i64 P, .slice A n cap, .slice B m cap2] 34)).heap.size = w.heap.size + 1 by simp] at b2
  rw [show ((w.alloc (.cells #[.int .i64 P, .slice A n cap, .slice B m cap2] 34)).alloc (.cells #[.int .i64 0, .slice none 0 0, .slice none 0 0] 38)).heap.size = w.heap.size + 1 + 1 by simp] at b3
  generalize (((w.alloc (.cells #[.int .i64 P, .slice A n cap, .slice B m cap2] 34)).alloc (.cells #[.int .i64 0, .slice none 0 0, .slice none 0 0] 38)).alloc (.cells #[.int .i64 P, .slice none 0 0, .slice none 0 0] 38)) = W at *
  have hlt := b3.lt
  have H0 := Lib.hid hB0
  refine (toBookS_any A n cap ts _ (HA.out.below hB0) hn).mono ?_
  rintro e w1 ⟨g, rfl, hg, _, hblk, hb⟩
  replace b1 := b1.below hb b1.lt
  replace b2 := b2.below hb b2.lt
  replace b3 := b3.below hb b3.lt
  have k1 := b1.cell 2
  have k2 := b3.cell 1
  have k3 := b3.frozen 1
  simp at k1 k2
  have l3 := b3.lt
  have hgl := hblk.lt
  have H1 := Lib.hid (Rq.of_blk hblk HA.out.1)
  have Hb := Lib.hid hb
  clear hb hblk hB0
  go_wp2_with fail
  have Hb2 := Lib.hid (show Below w.heap.size w (w1.setCell ⟨w.heap.size + 1 + 1, 1, none⟩ (.slice (some ⟨g, 0, none⟩) n n)) from (bt H0.out Hb.out).setCell (by show w.heap.size ≤ w.heap.size + 1 + 1; omega) _)
  have hR := H1.out.far (p := ⟨w.heap.size + 1 + 1, 1, none⟩) (by show g ≠ w.heap.size + 1 + 1; omega) (.slice (some ⟨g, 0, none⟩) n n)
  replace b1 := b1.far (p := ⟨w.heap.size + 1 + 1, 1, none⟩) (by show w.heap.size ≠ w.heap.size + 1 + 1; omega) (.slice (some ⟨g, 0, none⟩) n n)
  replace b2 := b2.far (p := ⟨w.heap.size + 1 + 1, 1, none⟩) (by show w.heap.size + 1 ≠ w.heap.size + 1 + 1; omega) (.slice (some ⟨g, 0, none⟩) n n)
  replace b3 := b3.set_ 1 (.slice (some ⟨g, 0, none⟩) n n)
  have hsz : (w1.setCell ⟨w.heap.size + 1 + 1, 1, none⟩ (.slice (some ⟨g, 0, none⟩) n n)).heap.size = w1.heap.size := by simp
  clear k1 k2 k3
  generalize (w1.setCell ⟨w.heap.size + 1 + 1, 1, none⟩ (.slice (some ⟨g, 0, none⟩) n n)) = W1 at *
  refine (toBookS_any B m cap2 rs _ (HB.out.below Hb2.out) hm).mono ?_
  rintro e w2 ⟨g', rfl, hg', _, hblk', hb'⟩
  replace b1 := b1.below hb' b1.lt
  replace b2 := b2.below hb' b2.lt
  replace b3 := b3.below hb' b3.lt
  have k0 := b3.cell 0
  have k1 := b3.cell 1
  have k2 := b3.cell 2
  have k3 := b3.frozen 0
  have k4 := b3.frozen 1
  have k5 := b3.frozen 2
  have m0 := b2.cell 0
  have m1 := b2.cell 1
  have m2 := b2.cell 2
  have m3 := b2.frozen 0
  have m4 := b2.frozen 1
  have m5 := b2.frozen 2
  simp at k0 k1 k2 m0 m1 m2
  have H2 := Lib.hid (hR.below hb' hR.lt)
  have H3 := Lib.hid (Rq.of_blk hblk' HB.out.1)
  have H4 := Lib.hid (bt Hb2.out hb')
  have f2 := (((b2.far (p := ⟨w.heap.size + 1 + 1, 2, none⟩) (by show w.heap.size + 1 ≠ w.heap.size + 1 + 1; omega) (.slice (some ⟨g', 0, none⟩) m m)).set_ 0 (.int .i64 P)).set_ 1 (.slice (some ⟨g, 0, none⟩) n n)).set_ 2 (.slice (some ⟨g', 0, none⟩) m m)
  have F2 := Lib.hid f2
  clear hb' hblk' hR b1 b2 b3 f2
  go_wp2
  have q0 := F2.out.cell 0
  have q1 := F2.out.cell 1
  have q2 := F2.out.cell 2
  simp only [List.setIfInBounds_toArray, List.set_cons_zero, List.set_cons_succ, List.getElem?_toArray, List.getElem?_cons_succ, List.getElem?_cons_zero] at q0 q1 q2
  refine bodyPost_ret (v := .agg #[.int .i64 P, .slice (some ⟨g, 0, none⟩) n n, .slice (some ⟨g', 0, none⟩) m m]) (by simp [results, Try.results17, go_sem, q0, q1, q2]) rfl ⟨g, g', rfl, by omega, by omega, ?_, ?_, ?_⟩
  · repeat (first | exact H2.out | refine Rq.far ?_ (by simp; omega) _)
  · repeat (first | exact H3.out | refine Rq.far ?_ (by simp; omega) _)
  · repeat (first | exact H4.out | refine Below.setCell ?_ (by simp <;> omega) _)
theorem szDesk_big1 (P : Int) (A B : Option Addr) (n cap m cap2 : Nat) (w : World) (hn : n ≤ 9223372036854775807) (h : 1048576 < n) :
    Calls Try.prog 15 #[.agg #[.int .i64 P, .slice A n cap, .slice B m cap2], .int .i64 1048576] w fun e w' => e = .returned (.int .i64 (-1)) ∧ Below w.heap.size w w' := by
  go_enter Try.func15, Try.ntmps15
  go_wp2_with (go_at_call 6; refine (szBookS_big A n cap 1048576 _ hn (by omega) (by omega)).mono ?_; rintro e w' ⟨rfl, rfl⟩)
  go_ret
  exact ⟨rfl, by (repeat (first | exact Below.refl _ _ | assumption | refine Below.alloc ?_ (by first | omega | (simp; done) | (simp; omega)) _ | refine Below.drew ?_ | refine bdN ?_ _ | refine Below.setCell ?_ (by first | omega | (simp; done) | (simp; omega)) _))⟩
theorem szDesk_any (P : Int) (A B : Option Addr) (n cap m cap2 : Nat) (w : World) (hn : n ≤ 1048576) (hm : m ≤ 9223372036854775807) :
    Calls Try.prog 15 #[.agg #[.int .i64 P, .slice A n cap, .slice B m cap2], .int .i64 1048576] w fun e w' => (∃ r : Int, e = .returned (.int .i64 r) ∧ ((0 ≤ r ∧ n + m ≤ 1048576) ∨ r < 0)) ∧ Below w.heap.size w w' := by
  by_cases h : (m : Int) ≤ 1048576 - n
  · have hr := szBookS_any B m cap2 (1048576 - n)
    go_enter Try.func15, Try.ntmps15
    have hS := fun w => szBookS_any A n cap 1048576 w (by omega) (by omega) (by omega)
    go_wp2_with (first | (go_at_call 6; refine (hS _).mono ?_; rintro e w' ⟨rfl, rfl⟩; clear hS) | (go_at_call 6; refine (hr _ hm (by omega) h).mono ?_; rintro e w' ⟨rfl, rfl⟩))
    go_ret
    exact ⟨⟨_, rfl, .inl ⟨by omega, by omega⟩⟩, by (repeat (first | exact Below.refl _ _ | assumption | refine Below.alloc ?_ (by first | omega | (simp; done) | (simp; omega)) _ | refine Below.drew ?_ | refine bdN ?_ _ | refine Below.setCell ?_ (by first | omega | (simp; done) | (simp; omega)) _))⟩
  · have hr := szBookS_big B m cap2 (1048576 - n)
    go_enter Try.func15, Try.ntmps15
    have hS := fun w => szBookS_any A n cap 1048576 w (by omega) (by omega) (by omega)
    go_wp2_with (first | (go_at_call 6; refine (hS _).mono ?_; rintro e w' ⟨rfl, rfl⟩; clear hS) | (go_at_call 6; refine (hr _ hm (by omega) (by omega)).mono ?_; rintro e w' ⟨rfl, rfl⟩))
    go_ret
    exact ⟨⟨_, rfl, .inr (by omega)⟩, by (repeat (first | exact Below.refl _ _ | assumption | refine Below.alloc ?_ (by first | omega | (simp; done) | (simp; omega)) _ | refine Below.drew ?_ | refine bdN ?_ _ | refine Below.setCell ?_ (by first | omega | (simp; done) | (simp; omega)) _))⟩
set_option maxHeartbeats 1000000 in
theorem eqDesk_yes (P : Int) (A B A' B' : Option Addr) (n m c1 c2 c3 c4 : Nat) (ts rs : List Quad) (w : World) (h1 : Books w A n ts) (h2 : Books w B m rs) (h3 : Books w A' n ts) (h4 : Books w B' m rs) (hn : n ≤ 9223372036854775807) (hm : m ≤ 9223372036854775807) :
    Calls Try.prog 19 #[.agg #[.int .i64 P, .slice A n c1, .slice B m c2], .agg #[.int .i64 P, .slice A' n c3, .slice B' m c4]] w fun e w' => e = .returned (.bool true) ∧ Below w.heap.size w w' := by
  have e0 : (P != P) = false := by simp
  have E1 := Lib.hid (fun w' (hb : Below w.heap.size w w') => eqBookS_any A A' n n c1 c3 ts ts w' (h1.below hb) (h3.below hb) hn)
  have E2 := Lib.hid (fun w' (hb : Below w.heap.size w w') => eqBookS_any B B' m m c2 c4 rs rs w' (h2.below hb) (h4.below hb) hm)
  rw [show eqQ ts ts = true by simp [eqQ]] at E1
  rw [show eqQ rs rs = true by simp [eqQ]] at E2
  clear h1 h2 h3 h4
  go_enter Try.func19, Try.ntmps19
  go_wp2_with fail
  have b1 := (Blk.new w 38 #[.int .i64 P, .slice A n c1, .slice B m c2]).alloc (.cells #[.int .i64 P, .slice A' n c3, .slice B' m c4] 38)
  have b2 := Blk.new (w.alloc (.cells #[.int .i64 P, .slice A n c1, .slice B m c2] 38)) 38 #[.int .i64 P, .slice A' n c3, .slice B' m c4]
  rw [show (w.alloc (.cells #[.int .i64 P, .slice A n c1, .slice B m c2] 38)).heap.size = w.heap.size + 1 by simp] at b2
  have hB0 : Below w.heap.size w ((w.alloc (.cells #[.int .i64 P, .slice A n c1, .slice B m c2] 38)).alloc (.cells #[.int .i64 P, .slice A' n c3, .slice B' m c4] 38)) := by (repeat (first | exact Below.refl _ _ | assumption | refine Below.alloc ?_ (by first | omega | (simp; done) | (simp; omega)) _ | refine Below.drew ?_ | refine bdN ?_ _ | refine Below.setCell ?_ (by first | omega | (simp; done) | (simp; omega)) _))
  generalize ((w.alloc (.cells #[.int .i64 P, .slice A n c1, .slice B m c2] 38)).alloc (.cells #[.int .i64 P, .slice A' n c3, .slice B' m c4] 38)) = W at *
  refine (E1.out _ hB0).mono ?_
  rintro e w1 ⟨rfl, hb⟩
  replace b1 := b1.below hb b1.lt
  replace b2 := b2.below hb b2.lt
  have k1 := b1.cell 2
  have k2 := b2.cell 2
  simp at k1 k2
  have H1 := Lib.hid (bt hB0 hb)
  clear hB0 hb
  go_wp2_with fail
  refine (E2.out _ H1.out).mono ?_
  rintro e w2 ⟨rfl, hb⟩
  go_wp2
  go_ret
  exact ⟨rfl, bt H1.out hb⟩
end Go.Proofs.Ytoiaggjjfahabaa
