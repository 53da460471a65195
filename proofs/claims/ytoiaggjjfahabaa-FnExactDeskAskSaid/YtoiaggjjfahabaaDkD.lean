/- l6Copy: what it computes. Condition: short lists in slices that are not nil. -/
import Derived.Test.YtoiaggjjfahabaaDkC
import Derived.Test.YtoiaggjjfahabaaDkL
namespace Go.Proofs.Ytoiaggjjfahabaa
open Go.RowKit
set_option linter.unusedVariables false
/-- append to an empty list of the call's own, in a region that draws -/
theorem step_app0 {ops : Array Oper} {o : Oper} {a : Act} {w : World} {K : Act → World → Prop} {Q : Exit → Act → World → Prop} {E : Prop}
    (hw : Region.wanted o (yielded ops a.tmps) = true) (s x : Operand) (ho : o.op = .call { callee := .builtin .append, args := #[s, x], argTypes := #[26, 26] })
    (base g : Nat) (hs : a.eval s = .slice (some ⟨g, 0, none⟩) 0 0) (hown : w.ownsRow base 46 4 (.slice (some ⟨g, 0, none⟩) 0 0) 0 [])
    (p : Addr) (n c : Nat) (qs : List Quad) (hx : a.eval x = .slice (some p) n c) (hq : qs.length = n) (hnews : ∀ j u, (qs.flatMap Quad.cells)[j]? = some u → w.cell? (p.add j) = some u) (hn : n ≤ 1048576) (hbase : base ≤ w.heap.size)
    (h : ∀ A d w', w'.ownsRow base 46 4 (.slice A n d) n (qs.flatMap Quad.cells) → w.grownBy w' (some g) → (∃ g', A = some ⟨g', 0, none⟩ ∧ (g' = g ∨ g' = w.heap.size) ∧ base ≤ g' ∧ g' < w'.heap.size) → K (a.put o.dst (.slice A n d)) w') :
    if Region.wanted o (yielded ops a.tmps) = true then Oper.wp Try.prog o a w K Q else E := by
  obtain ⟨i0, hi, ia, ib, ic⟩ := info_parts infoBk2
  refine step_append_fresh hw s x 26 ho base 46 i0 (.agg #[.int .i64 0, .int .i64 0, .int .i64 0, .int .i64 0]) 4 32 Try.underlying26 hi ia ib ic rfl (by decide) _ 0 [] hs hown p n c (qs.flatMap Quad.cells) hx (by rw [len_cells2, hq]) hnews (one_cells2 qs) (by unfold maxLen; omega) (by omega) hbase ?_
  intro v' w' ho' hg hf
  rw [Nat.zero_add, List.nil_append] at ho'
  obtain ⟨A, d, rfl, _⟩ := own_b ho' hq
  refine h A d w' ho' hg ?_
  rcases own_lt ho' with rfl | ⟨g', rfl, h1, h2⟩
  · exfalso; rcases hf with e | e <;> cases e
  · refine ⟨g', rfl, ?_, h1, h2⟩
    rcases hf with e | e
    · left; simpa [Value.ownBlock] using e
    · right; simpa [Value.ownBlock] using e
theorem apart_some {A B : Option Addr} {g g' : Nat} (h1 : A = some ⟨g, 0, none⟩) (h2 : B = some ⟨g', 0, none⟩) (h : g ≠ g') : A = none ∨ A ≠ B := .inr fun e => by rw [h1, h2] at e; cases e; exact h rfl
theorem apart_sym {A B : Option Addr} (h : B = none ∨ B ≠ A) : A = none ∨ A ≠ B := by
  rcases h with rfl | h
  · cases A
    · exact .inl rfl
    · exact .inr (by intro e; cases e)
  · exact .inr (Ne.symm h)
set_option maxRecDepth 100000 in
set_option maxHeartbeats 4000000 in
theorem l6Copy_s (P : Int) (p p' : Addr) (n cap m cap2 : Nat) (ts rs : List Quad) (w : World) (hA : Books w (some p) n ts) (hB : Books w (some p') m rs) (hn : n ≤ 1048576) (hm : m ≤ 1048576) :
    Calls Try.prog 43 #[.agg #[.int .i64 P, .slice (some p) n cap, .slice (some p') m cap2]] w (CopyE w P n ts m rs) := by
  have hb0 : Below w.heap.size w ((w.alloc (.cells #[.int .i64 P, .slice (some p) n cap, .slice (some p') m cap2] 38)).alloc (.cells #[.int .i64 0, .slice none 0 0, .slice none 0 0] 38)) := by (repeat (first | exact Below.refl _ _ | assumption | refine Below.alloc ?_ (by first | omega | (simp; done) | (simp; omega)) _ | refine Below.drew ?_ | refine bdN ?_ _ | refine Below.setCell ?_ (by first | omega | (simp; done) | (simp; omega)) _))
  have bX := (Blk.new w 38 #[.int .i64 P, .slice (some p) n cap, .slice (some p') m cap2]).alloc (.cells #[.int .i64 0, .slice none 0 0, .slice none 0 0] 38)
  have bY := Blk.new (w.alloc (.cells #[.int .i64 P, .slice (some p) n cap, .slice (some p') m cap2] 38)) 38 #[.int .i64 0, .slice none 0 0, .slice none 0 0]
  rw [show (w.alloc (.cells #[.int .i64 P, .slice (some p) n cap, .slice (some p') m cap2] 38)).heap.size = w.heap.size + 1 by simp] at bY
  have news : ∀ {p : Addr} {n : Nat} {qs : List Quad}, Books w (some p) n qs → ∀ w', Below w.heap.size w w' → ∀ j u, (qs.flatMap Quad.cells)[j]? = some u → w'.cell? (p.add j) = some u := fun {p n qs} h w' hb => by
    rcases Nat.eq_zero_or_pos n with z | z
    · obtain rfl : qs = [] := List.length_eq_zero_iff.1 (by rw [h.1]; exact z)
      intro j u hj; simp at hj
    · obtain ⟨b, off, e, _⟩ := h.2 z
      obtain rfl := Option.some.inj e
      exact books_news2 (h.below hb)
  have N1 := Lib.hid (news hA)
  have N2 := Lib.hid (news hB)
  have hl1 := hA.1
  have hl2 := hB.1
  clear news hA hB
  go_enter Try.func43, Try.ntmps43
  go_upto_region 1 with fail
  generalize ((w.alloc (.cells #[.int .i64 P, .slice (some p) n cap, .slice (some p') m cap2] 38)).alloc (.cells #[.int .i64 0, .slice none 0 0, .slice none 0 0] 38)) = W at *
  have k0 := bX.cell 0
  have k1 := bX.cell 1
  have k2 := bX.cell 2
  simp at k0 k1 k2
  have l1 := bX.lt
  have l2 := bY.lt
  have HW := Lib.hid hb0
  have HY := Lib.hid bY
  have s1 : (W.alloc (.cells #[] 46)).heap.size = W.heap.size + 1 := by simp
  have E0 : World.ownsRow (W.alloc (.cells #[] 46)).drew W.heap.size 46 4 (.slice (some ⟨W.heap.size, 0, none⟩) 0 0) 0 [] := o_new0 W W.heap.size 46 4 (Nat.le_refl _)
  have E1 : World.ownsRow ((W.alloc (.cells #[] 46)).alloc (.cells #[] 46)).drew W.heap.size 46 4 (.slice (some ⟨W.heap.size, 0, none⟩) 0 0) 0 [] := (o_new0 W W.heap.size 46 4 (Nat.le_refl _)).alloc (.cells #[] 46)
  have E2 : World.ownsRow ((W.alloc (.cells #[] 46)).alloc (.cells #[] 46)).drew W.heap.size 46 4 (.slice (some ⟨W.heap.size + 1, 0, none⟩) 0 0) 0 [] := by
    have h := o_new0 (W.alloc (.cells #[] 46)) W.heap.size 46 4 (by simp)
    rw [s1] at h
    exact h
  have Y1 : Below W.heap.size W (W.alloc (.cells #[] 46)).drew := ((Below.refl W.heap.size W).alloc (Nat.le_refl _) _).drew
  have Y2 : Below W.heap.size W ((W.alloc (.cells #[] 46)).alloc (.cells #[] 46)).drew := (((Below.refl W.heap.size W).alloc (Nat.le_refl _) _).alloc (by simp) _).drew
  have z1 : (W.alloc (.cells #[] 46)).drew.heap.size = W.heap.size + 1 := by simp
  have z2 : ((W.alloc (.cells #[] 46)).alloc (.cells #[] 46)).drew.heap.size = W.heap.size + 1 + 1 := by simp
  have HE0 := Lib.hid E0
  have HE1 := Lib.hid E1
  have HE2 := Lib.hid E2
  have HY1 := Lib.hid Y1
  have HY2 := Lib.hid Y2
  have HZ1 := Lib.hid z1
  have HZ2 := Lib.hid z2
  clear hb0 bX bY E0 E1 E2 Y1 Y2 z1 z2 s1
  go_region_held3 (fun w' => Below (w.heap.size + 1) (W) w' ∧ ∀ k o, k < w.heap.size + 1 → w'.cell? ⟨k, o, none⟩ = World.cell? (W) ⟨k, o, none⟩) (first | (first | assumption | exact kp_start | (refine kp_step ?_ hb ?_; assumption; (first | omega | (simp; done) | (simp; omega))) | (refine kp_drew ?_; assumption) | (refine kp_drew (kp_of hb ?_); (first | omega | (simp; done) | (simp; omega)))) | (refine kp_of ?_ ?_; (assumption); (omega)) | (refine kp_alloc ?_ ?_ _; (assumption); (omega)) | exact kp_alloc kp_start (by omega) _ | exact kp_drew (kp_alloc ⟨Below.refl _ _, fun _ _ _ => rfl⟩ (by omega) _) | exact kp_drew (kp_alloc (kp_alloc ⟨Below.refl _ _, fun _ _ _ => rfl⟩ (by omega) _) (by omega) _) | (refine kp_set (kp_set (kp_set ?_ ?_ _) ?_ _) ?_ _; (assumption); (simp); (simp); (simp))) (first
    | (refine step_app0 (by rfl) (.tmp 5) (.tmp 7) (by rfl) W.heap.size W.heap.size (by rfl) HE0.out p n cap ts (by rfl) hl1 (N1.out _ (bt HW.out HY1.out)) (by omega) HY1.out.size ?_; intro V1 d1 w1 ho hg ⟨g1, e1, hd, hlo, hhi⟩; rw [HZ1.out] at hd; have O1 := Lib.hid ho; have B1 := HY1.out.grown hg HY1.out.size (fun q hq => by cases hq; omega); have G1 := Lib.hid e1; clear e1)
    | (refine step_app0 (by rfl) (.tmp 5) (.tmp 7) (by rfl) W.heap.size W.heap.size (by rfl) HE1.out p n cap ts (by rfl) hl1 (N1.out _ (bt HW.out HY2.out)) (by omega) HY2.out.size ?_; intro V1 d1 w1 ho hg ⟨g1, e1, hd, hlo, hhi⟩; rw [HZ2.out] at hd; have O1 := Lib.hid ho; have B1 := HY2.out.grown hg HY2.out.size (fun q hq => by cases hq; omega); have F1 := Lib.hid (World.ownsRow.kept HE2.out hg (.inr (by simp [Value.ownBlock]))); have G1 := Lib.hid e1; clear e1)
    | (refine step_app0 (by rfl) (.tmp 5) (.tmp 7) (by rfl) W.heap.size (W.heap.size + 1) (by rfl) HE2.out p n cap ts (by rfl) hl1 (N1.out _ (bt HW.out HY2.out)) (by omega) HY2.out.size ?_; intro V1 d1 w1 ho hg ⟨g1, e1, hd, hlo, hhi⟩; rw [HZ2.out] at hd; have O1 := Lib.hid ho; have B1 := HY2.out.grown hg HY2.out.size (fun q hq => by cases hq; omega); have F1 := Lib.hid (World.ownsRow.kept HE1.out hg (.inr (by simp [Value.ownBlock]))); have G1 := Lib.hid e1; clear e1)
    | (refine step_app0 (by rfl) (.tmp 5) (.tmp 7) (by rfl) W.heap.size _ (by rfl) F1.out p n cap ts (by rfl) hl1 (N1.out _ (bt HW.out B1)) (by omega) B1.size ?_; intro V1 d1 w2 ho2 hg2 ⟨g1, e1, hd2, hlo2, hhi2⟩; (try simp at hd2); have B2 := B1.grown hg2 B1.size (fun q hq => by cases hq; omega); have K2 := Lib.hid (World.ownsRow.kept O2.out hg2 (.inr (by rw [G1.out]; simp [Value.ownBlock]; omega))); have O1 := Lib.hid ho2; have b2 := HY.out.below B2 l2; have y0 := b2.cell 0; have y1 := b2.cell 1; have y2 := b2.cell 2; have x0 := b2.frozen 0; have x1 := b2.frozen 1; have x2 := b2.frozen 2; have AP := Lib.hid (apart_some G1.out e1 (by omega)); clear e1)
    | (refine step_app0 (by rfl) (.tmp 5) (.tmp 7) (by rfl) W.heap.size w1.heap.size (by rfl) (o_new0 w1 W.heap.size 46 4 B1.size) p n cap ts (by rfl) hl1 (N1.out _ (bt HW.out (B1.alloc B1.size _))) (by omega) (Nat.le_trans B1.size (by simp)) ?_; intro V1 d1 w2 ho2 hg2 ⟨g1, e1, hd2, hlo2, hhi2⟩; (try simp at hd2); have B2 := (B1.alloc B1.size (.cells #[] 46)).grown hg2 (Nat.le_trans B1.size (by simp)) (fun q hq => by cases hq; omega); have K2 := Lib.hid (World.ownsRow.kept (O2.out.alloc (.cells #[] 46)) hg2 (.inr (by rw [G1.out]; simp [Value.ownBlock]; omega))); have O1 := Lib.hid ho2; have b2 := HY.out.below B2 l2; have y0 := b2.cell 0; have y1 := b2.cell 1; have y2 := b2.cell 2; have x0 := b2.frozen 0; have x1 := b2.frozen 1; have x2 := b2.frozen 2; have AP := Lib.hid (apart_some G1.out e1 (by omega)); clear e1)
    | (refine step_app0 (by rfl) (.tmp 9) (.tmp 11) (by rfl) W.heap.size W.heap.size (by rfl) HE0.out p' m cap2 rs (by rfl) hl2 (N2.out _ (bt HW.out HY1.out)) (by omega) HY1.out.size ?_; intro V2 d2 w1 ho hg ⟨g2, e2, hd, hlo, hhi⟩; rw [HZ1.out] at hd; have O2 := Lib.hid ho; have B1 := HY1.out.grown hg HY1.out.size (fun q hq => by cases hq; omega); have G1 := Lib.hid e2; clear e2)
    | (refine step_app0 (by rfl) (.tmp 9) (.tmp 11) (by rfl) W.heap.size W.heap.size (by rfl) HE1.out p' m cap2 rs (by rfl) hl2 (N2.out _ (bt HW.out HY2.out)) (by omega) HY2.out.size ?_; intro V2 d2 w1 ho hg ⟨g2, e2, hd, hlo, hhi⟩; rw [HZ2.out] at hd; have O2 := Lib.hid ho; have B1 := HY2.out.grown hg HY2.out.size (fun q hq => by cases hq; omega); have F1 := Lib.hid (World.ownsRow.kept HE2.out hg (.inr (by simp [Value.ownBlock]))); have G1 := Lib.hid e2; clear e2)
    | (refine step_app0 (by rfl) (.tmp 9) (.tmp 11) (by rfl) W.heap.size (W.heap.size + 1) (by rfl) HE2.out p' m cap2 rs (by rfl) hl2 (N2.out _ (bt HW.out HY2.out)) (by omega) HY2.out.size ?_; intro V2 d2 w1 ho hg ⟨g2, e2, hd, hlo, hhi⟩; rw [HZ2.out] at hd; have O2 := Lib.hid ho; have B1 := HY2.out.grown hg HY2.out.size (fun q hq => by cases hq; omega); have F1 := Lib.hid (World.ownsRow.kept HE1.out hg (.inr (by simp [Value.ownBlock]))); have G1 := Lib.hid e2; clear e2)
    | (refine step_app0 (by rfl) (.tmp 9) (.tmp 11) (by rfl) W.heap.size _ (by rfl) F1.out p' m cap2 rs (by rfl) hl2 (N2.out _ (bt HW.out B1)) (by omega) B1.size ?_; intro V2 d2 w2 ho2 hg2 ⟨g2, e2, hd2, hlo2, hhi2⟩; (try simp at hd2); have B2 := B1.grown hg2 B1.size (fun q hq => by cases hq; omega); have K1 := Lib.hid (World.ownsRow.kept O1.out hg2 (.inr (by rw [G1.out]; simp [Value.ownBlock]; omega))); have O2 := Lib.hid ho2; have b2 := HY.out.below B2 l2; have y0 := b2.cell 0; have y1 := b2.cell 1; have y2 := b2.cell 2; have x0 := b2.frozen 0; have x1 := b2.frozen 1; have x2 := b2.frozen 2; have AP := Lib.hid (apart_some G1.out e2 (by omega)); clear e2)
    | (refine step_app0 (by rfl) (.tmp 9) (.tmp 11) (by rfl) W.heap.size w1.heap.size (by rfl) (o_new0 w1 W.heap.size 46 4 B1.size) p' m cap2 rs (by rfl) hl2 (N2.out _ (bt HW.out (B1.alloc B1.size _))) (by omega) (Nat.le_trans B1.size (by simp)) ?_; intro V2 d2 w2 ho2 hg2 ⟨g2, e2, hd2, hlo2, hhi2⟩; (try simp at hd2); have B2 := (B1.alloc B1.size (.cells #[] 46)).grown hg2 (Nat.le_trans B1.size (by simp)) (fun q hq => by cases hq; omega); have K1 := Lib.hid (World.ownsRow.kept (O1.out.alloc (.cells #[] 46)) hg2 (.inr (by rw [G1.out]; simp [Value.ownBlock]; omega))); have O2 := Lib.hid ho2; have b2 := HY.out.below B2 l2; have y0 := b2.cell 0; have y1 := b2.cell 1; have y2 := b2.cell 2; have x0 := b2.frozen 0; have x1 := b2.frozen 1; have x2 := b2.frozen 2; have AP := Lib.hid (apart_some G1.out e2 (by omega)); clear e2))
  all_goals
    have q2 := ((b2.set_ 0 (.int .i64 P)).set_ 1 (.slice V1 n d1)).set_ 2 (.slice V2 m d2)
    have f0 := q2.cell 0
    have f1 := q2.cell 1
    have f2 := q2.cell 2
    simp only [List.setIfInBounds_toArray, List.set_cons_zero, List.set_cons_succ, List.getElem?_toArray, List.getElem?_cons_succ, List.getElem?_cons_zero] at f0 f1 f2
    have R1 : w2.ownsRow W.heap.size 46 4 (.slice V1 n d1) n (ts.flatMap Quad.cells) := by first | exact K1.out | exact O1.out
    have R2 : w2.ownsRow W.heap.size 46 4 (.slice V2 m d2) m (rs.flatMap Quad.cells) := by first | exact K2.out | exact O2.out
    have H1 := Lib.hid (own_mono (ownsRow_setCell_below (ownsRow_setCell_below (ownsRow_setCell_below R1 (a := ⟨w.heap.size + 1, 0, none⟩) l2 (.int .i64 P)) (a := ⟨w.heap.size + 1, 1, none⟩) l2 (.slice V1 n d1)) (a := ⟨w.heap.size + 1, 2, none⟩) l2 (.slice V2 m d2)) HW.out.size)
    have H2 := Lib.hid (own_mono (ownsRow_setCell_below (ownsRow_setCell_below (ownsRow_setCell_below R2 (a := ⟨w.heap.size + 1, 0, none⟩) l2 (.int .i64 P)) (a := ⟨w.heap.size + 1, 1, none⟩) l2 (.slice V1 n d1)) (a := ⟨w.heap.size + 1, 2, none⟩) l2 (.slice V2 m d2)) HW.out.size)
    have H3 : Hid (V1 = none ∨ V1 ≠ V2) := by first | exact AP | exact apart_sym AP.out
    have H4 := Lib.hid (bt HW.out B2)
    clear ho hg ho2 hg2 b2 q2 R1 R2 B1 B2 y0 y1 y2 x0 x1 x2
    go_wp2
    refine bodyPost_ret (v := .agg #[.int .i64 P, .slice V1 n d1, .slice V2 m d2]) (by simp [results, Try.results43, go_sem, f0, f1, f2]) rfl ⟨V1, d1, V2, d2, rfl, H1.out, H2.out, H3.out, ?_⟩
    repeat (first | exact H4.out | refine Below.setCell ?_ (by simp) _)
end Go.Proofs.Ytoiaggjjfahabaa
