/- l6Fits: what it computes. Condition: short lists. -/
import Derived.Test.YtoiaggjjfahabaaDkT
namespace Go.Proofs.Ytoiaggjjfahabaa
open Go.RowKit
set_option linter.unusedVariables false
theorem litB {X w1 : World} {g : Nat} {t : TypeId} {row : Option Nat} {a b c d : Int} (h : Blk X g t #[.int .i64 a, .int .i64 b, .int .i64 c, .int .i64 d]) (hg : X.grownBy w1 row) (hne : some g ≠ row) : ∀ j u, [Value.int .i64 a, .int .i64 b, .int .i64 c, .int .i64 d][j]? = some u → w1.cell? ((⟨g, 0, none⟩ : Addr).add j) = some u := by
  intro j u hj
  have h' : Blk w1 g t #[.int .i64 a, .int .i64 b, .int .i64 c, .int .i64 d] := (hg.block g h.lt hne).trans h
  rw [add_none, Nat.zero_add, h'.cell j]
  simpa using hj
theorem kpR {W : World} : Below W.heap.size W W ∧ ∀ (k i : Nat), k < W.heap.size → W.cell? ⟨k, i, none⟩ = W.cell? ⟨k, i, none⟩ := ⟨Below.refl _ _, fun _ _ _ => rfl⟩
set_option maxRecDepth 100000 in
set_option maxHeartbeats 1000000 in
theorem l6Fits_s (P : Int) (B : Option Addr) (p : Addr) (n cap m cap2 : Nat) (qs : List Quad) (a b c d : Int) (w : World) (h : Books w (some p) n qs) (hn : n ≤ 1000000) :
    Calls Try.prog 38 #[.agg #[.int .i64 P, .slice (some p) n cap, .slice B m cap2], .agg #[.int .i64 a, .int .i64 b, .int .i64 c, .int .i64 d]] w fun e w' => e = .returned (.bool (ctV P qs ⟨a, b, c, d⟩)) ∧ Below w.heap.size w w' := by
  obtain ⟨i0, hi, ia, ib, ic⟩ := info_parts infoBk2
  have hlen := h.1
  have hb1 : Below w.heap.size w (w.alloc (.cells #[.int .i64 P, .slice (some p) n cap, .slice B m cap2] 38)) := (Below.refl _ _).alloc (Nat.le_refl _) _
  have hB1 := (Blk.new w 38 #[.int .i64 P, .slice (some p) n cap, .slice B m cap2]).alloc (.cells #[.int .i64 a, .int .i64 b, .int .i64 c, .int .i64 d] 46)
  have hB2 := Blk.new (w.alloc (.cells #[.int .i64 P, .slice (some p) n cap, .slice B m cap2] 38)) 46 #[.int .i64 a, .int .i64 b, .int .i64 c, .int .i64 d]
  have hb2 := hb1.alloc hb1.size (.cells #[.int .i64 a, .int .i64 b, .int .i64 c, .int .i64 d] 46)
  have NW : ∀ w', Below w.heap.size w w' → ∀ j u, (qs.flatMap Quad.cells)[j]? = some u → w'.cell? (p.add j) = some u := fun w' hb => by
    rcases Nat.eq_zero_or_pos n with z | z
    · obtain rfl : qs = [] := List.length_eq_zero_iff.1 (by omega)
      intro j u hj; simp at hj
    · obtain ⟨b, off, e, _⟩ := h.2 z
      obtain rfl := Option.some.inj e
      exact books_news2 (h.below hb)
  have HN := Lib.hid NW
  have HL := Lib.hid (len_cells2 qs)
  have HO := Lib.hid (one_cells2 qs)
  clear NW
  obtain ⟨R, hRv⟩ : ∃ R, ctV P qs ⟨a, b, c, d⟩ = R := ⟨_, rfl⟩
  rw [hRv]
  have HV := Lib.hid hRv
  clear hRv
  go_enter Try.func38, Try.ntmps38
  go_upto_region 1 with fail
  generalize ((w.alloc (.cells #[.int .i64 P, .slice (some p) n cap, .slice B m cap2] 38)).alloc (.cells #[.int .i64 a, .int .i64 b, .int .i64 c, .int .i64 d] 46)) = W at *
  have k0 := hB1.cell 0
  have k1 := hB1.cell 1
  have k2 := hB1.cell 2
  have j0 := hB2.cell 0
  have j1 := hB2.cell 1
  have j2 := hB2.cell 2
  have j3 := hB2.cell 3
  simp at k0 k1 k2 j0 j1 j2 j3
  have l1 := hB1.lt
  have l2 : w.heap.size + 1 < W.heap.size := by have := hB2.lt; simp at this; exact this
  have HW := Lib.hid hb2
  clear hB1 hB2 hb1 hb2 h
  have hE : World.ownsRow ((W.alloc (.cells #[.int .i64 a, .int .i64 b, .int .i64 c, .int .i64 d] 46)).alloc (.cells #[] 46)).drew W.heap.size 46 4 (.slice (some ⟨W.heap.size + 1, 0, none⟩) 0 0) 0 [] := by
    have h := o_new0 (W.alloc (.cells #[.int .i64 a, .int .i64 b, .int .i64 c, .int .i64 d] 46)) W.heap.size 46 4 (by simp)
    rw [show (W.alloc (.cells #[.int .i64 a, .int .i64 b, .int .i64 c, .int .i64 d] 46)).heap.size = W.heap.size + 1 by simp] at h
    exact h
  go_region_held3 (fun w' => Below (W.heap.size) (W) w' ∧ ∀ k o, k < W.heap.size → w'.cell? ⟨k, o, none⟩ = World.cell? (W) ⟨k, o, none⟩) (first | (first | assumption | exact kp_start | (refine kp_step ?_ hb ?_; assumption; (first | omega | (simp; done) | (simp; omega))) | (refine kp_drew ?_; assumption) | (refine kp_drew (kp_of hb ?_); (first | omega | (simp; done) | (simp; omega)))) | (refine kpB ?_; assumption) | (repeat (first | assumption | exact kpR | refine kpA ?_ | refine kp_drew ?_))) (first
    | (refine step_append_fresh (by rfl) (.tmp 6) (.tmp 8) 26 rfl W.heap.size 46 i0 (.agg #[.int .i64 0, .int .i64 0, .int .i64 0, .int .i64 0]) 4 32 Try.underlying26 hi ia ib ic rfl (by decide) (.slice (some ⟨W.heap.size, 0, none⟩) 0 0) 0 [] (by rfl) (show World.ownsRow ((W.alloc (.cells #[] 46)).drew) W.heap.size 46 4 (.slice (some ⟨W.heap.size, 0, none⟩) 0 0) 0 [] from o_new0 W W.heap.size 46 4 (Nat.le_refl _)) p n cap (qs.flatMap Quad.cells) (by rfl) ?_ ?_ ?_ ?_ ?_ ?_ ?_; (rw [HL.out, hlen]); (exact HN.out _ (bt HW.out (((Below.refl W.heap.size W).alloc (Nat.le_refl _) _).drew))); (exact HO.out); (unfold maxLen; omega); (omega); (simp <;> omega); (intro v1 w1 hown1 hg1 _; have hB1 : Below W.heap.size W w1 := (((Below.refl W.heap.size W).alloc (Nat.le_refl _) _).drew).grown hg1 (by simp <;> omega) (fun q hq => by simp [Value.ownBlock] at hq; omega)))
    | (refine step_append_fresh (by rfl) (.tmp 6) (.tmp 8) 26 rfl W.heap.size 46 i0 (.agg #[.int .i64 0, .int .i64 0, .int .i64 0, .int .i64 0]) 4 32 Try.underlying26 hi ia ib ic rfl (by decide) (.slice (some ⟨W.heap.size, 0, none⟩) 0 0) 0 [] (by rfl) (show World.ownsRow (((W.alloc (.cells #[] 46)).alloc (.cells #[.int .i64 a, .int .i64 b, .int .i64 c, .int .i64 d] 46)).drew) W.heap.size 46 4 (.slice (some ⟨W.heap.size, 0, none⟩) 0 0) 0 [] from (o_new0 W W.heap.size 46 4 (Nat.le_refl _)).alloc (.cells #[.int .i64 a, .int .i64 b, .int .i64 c, .int .i64 d] 46)) p n cap (qs.flatMap Quad.cells) (by rfl) ?_ ?_ ?_ ?_ ?_ ?_ ?_; (rw [HL.out, hlen]); (exact HN.out _ (bt HW.out ((((Below.refl W.heap.size W).alloc (Nat.le_refl _) _).alloc (by simp) _).drew))); (exact HO.out); (unfold maxLen; omega); (omega); (simp <;> omega); (intro v1 w1 hown1 hg1 _; have hB1 : Below W.heap.size W w1 := ((((Below.refl W.heap.size W).alloc (Nat.le_refl _) _).alloc (by simp) _).drew).grown hg1 (by simp <;> omega) (fun q hq => by simp [Value.ownBlock] at hq; omega); have hLit := litB (Blk.new (W.alloc (.cells #[] 46)) 46 #[.int .i64 a, .int .i64 b, .int .i64 c, .int .i64 d]).drew hg1 (by simp [Value.ownBlock]); rw [show (W.alloc (.cells #[] 46)).heap.size = W.heap.size + 1 by simp] at hLit))
    | (refine step_append_fresh (by rfl) (.tmp 6) (.tmp 8) 26 rfl W.heap.size 46 i0 (.agg #[.int .i64 0, .int .i64 0, .int .i64 0, .int .i64 0]) 4 32 Try.underlying26 hi ia ib ic rfl (by decide) (.slice (some ⟨W.heap.size + 1, 0, none⟩) 0 0) 0 [] (by rfl) (show World.ownsRow (((W.alloc (.cells #[.int .i64 a, .int .i64 b, .int .i64 c, .int .i64 d] 46)).alloc (.cells #[] 46)).drew) W.heap.size 46 4 (.slice (some ⟨W.heap.size + 1, 0, none⟩) 0 0) 0 [] from hE) p n cap (qs.flatMap Quad.cells) (by rfl) ?_ ?_ ?_ ?_ ?_ ?_ ?_; (rw [HL.out, hlen]); (exact HN.out _ (bt HW.out ((((Below.refl W.heap.size W).alloc (Nat.le_refl _) _).alloc (by simp) _).drew))); (exact HO.out); (unfold maxLen; omega); (omega); (simp <;> omega); (intro v1 w1 hown1 hg1 _; have hB1 : Below W.heap.size W w1 := ((((Below.refl W.heap.size W).alloc (Nat.le_refl _) _).alloc (by simp) _).drew).grown hg1 (by simp <;> omega) (fun q hq => by simp [Value.ownBlock] at hq; omega); have hLit := litB ((Blk.new W 46 #[.int .i64 a, .int .i64 b, .int .i64 c, .int .i64 d]).alloc (.cells #[] 46)).drew hg1 (by simp [Value.ownBlock])))
    | (refine step_append_fresh (by rfl) (.tmp 9) (.tmp 11) 26 rfl W.heap.size 46 i0 (.agg #[.int .i64 0, .int .i64 0, .int .i64 0, .int .i64 0]) 4 32 Try.underlying26 hi ia ib ic rfl (by decide) v1 (0 + n) ([] ++ qs.flatMap Quad.cells) (by rfl) (hown1.alloc _) ⟨w1.heap.size, 0, none⟩ 1 1 [.int .i64 a, .int .i64 b, .int .i64 c, .int .i64 d] (by rfl) ?_ ?_ ?_ ?_ ?_ ?_ ?_; (rfl); (exact cellsQn w1 _ a b c d); (exact oneQ a b c d); (unfold maxLen; omega); (omega); (exact Nat.le_trans hB1.size (by simp)); (intro v2 w2 hown hgrow _; have hB2 : Below W.heap.size W w2 := (hB1.alloc hB1.size _).grown hgrow (Nat.le_trans hB1.size (by simp)) (fun q hq => (hown1.lt q hq).1)))
    | (refine step_append_fresh (by rfl) (.tmp 9) (.tmp 11) 26 rfl W.heap.size 46 i0 (.agg #[.int .i64 0, .int .i64 0, .int .i64 0, .int .i64 0]) 4 32 Try.underlying26 hi ia ib ic rfl (by decide) v1 (0 + n) ([] ++ qs.flatMap Quad.cells) (by rfl) (hown1) ⟨W.heap.size + 1, 0, none⟩ 1 1 [.int .i64 a, .int .i64 b, .int .i64 c, .int .i64 d] (by rfl) ?_ ?_ ?_ ?_ ?_ ?_ ?_; (rfl); (exact hLit); (exact oneQ a b c d); (unfold maxLen; omega); (omega); (exact hB1.size); (intro v2 w2 hown hgrow _; have hB2 : Below W.heap.size W w2 := (hB1).grown hgrow (hB1.size) (fun q hq => (hown1.lt q hq).1)))
    | (refine step_append_fresh (by rfl) (.tmp 9) (.tmp 11) 26 rfl W.heap.size 46 i0 (.agg #[.int .i64 0, .int .i64 0, .int .i64 0, .int .i64 0]) 4 32 Try.underlying26 hi ia ib ic rfl (by decide) v1 (0 + n) ([] ++ qs.flatMap Quad.cells) (by rfl) (hown1) ⟨W.heap.size, 0, none⟩ 1 1 [.int .i64 a, .int .i64 b, .int .i64 c, .int .i64 d] (by rfl) ?_ ?_ ?_ ?_ ?_ ?_ ?_; (rfl); (exact hLit); (exact oneQ a b c d); (unfold maxLen; omega); (omega); (exact hB1.size); (intro v2 w2 hown hgrow _; have hB2 : Below W.heap.size W w2 := (hB1).grown hgrow (hB1.size) (fun q hq => (hown1.lt q hq).1))))
  all_goals
    rcases hown.2 with ⟨_, h00⟩ | ⟨g, cc, cur, rfl, hbg, hgc, hcc, hm, _⟩
    · exact absurd h00 (by omega)
    have hown' := hown
    rw [Nat.zero_add, List.nil_append] at hown'
    have hR := (Rq.of_own (qs := qs ++ [⟨a, b, c, d⟩]) (by rw [List.flatMap_append]; exact hown') (by simp [hlen])).1
    have BS := BooksMost_s (some ⟨g, 0, none⟩) (n + 1) cc _ w2 hR.books (by omega)
    have BS' := fun w' (hb : Below w2.heap.size w2 w') => BooksMost_s (some ⟨g, 0, none⟩) (n + 1) cc _ w' (hR.books.below hb) (by omega)
    have m0 : w2.cell? ⟨w.heap.size, 0, none⟩ = some (.int .i64 P) := (hB2.cell (p := ⟨w.heap.size, 0, none⟩) l1).trans k0
    have l3 : w.heap.size < w2.heap.size := Nat.lt_of_lt_of_le l1 hB2.size
    have H2 := Lib.hid (bt HW.out hB2)
    rw [Nat.zero_add] at *
    clear hown hown' hgrow hgc hR hbg hown1 hg1 hB1 hB2 j0 j1 j2 j3 hE
    by_cases hlt : n < 7
    · have hc : decide ((n : Int) + 1 ≤ 7) = true := by simp; omega
      have hv : ctV P qs ⟨a, b, c, d⟩ = decide (bmV (qs ++ [⟨a, b, c, d⟩]) ≤ P) := by unfold ctV; rw [hlen, decide_eq_true hlt, Bool.true_and]
      have hr0 := HV.out.symm.trans hv
      generalize bmV (qs ++ [⟨a, b, c, d⟩]) = V at hr0 BS'
      have HR0 := Lib.hid hr0
      clear hv HV hr0 BS
      go_upto_region 2 with fail
      go_region_held3 (fun w' => Below (w2.heap.size) (w2) w' ∧ ∀ k o, k < w2.heap.size → w'.cell? ⟨k, o, none⟩ = World.cell? (w2) ⟨k, o, none⟩) (first | assumption | exact kp_start | (refine kp_step ?_ hb ?_; assumption; (first | omega | (simp; done) | (simp; omega))) | (refine kp_drew ?_; assumption) | (refine kp_drew (kp_of hb ?_); (first | omega | (simp; done) | (simp; omega)))) (first | (go_at_call 35; refine (BS' _ (by first | exact (And.left (by assumption)) | exact (Below.refl _ _).drew)).mono ?_; rintro e w' ⟨rfl, hb⟩))
      all_goals
        go_wp2_with fail
        go_ret
        exact ⟨ret_bool HR0.out.symm, bt H2.out (by (refine kp_end (by assumption) ?_ (by first | omega | (simp; done) | (simp; omega)); (repeat (first | exact Below.refl _ _ | assumption | refine Below.alloc ?_ (by first | omega | (simp; done) | (simp; omega)) _ | refine Below.drew ?_ | refine bdN ?_ _ | refine Below.setCell ?_ (by first | omega | (simp; done) | (simp; omega)) _))))⟩
    · have hc : decide ((n : Int) + 1 ≤ 7) = false := by simp; omega
      have hv : ctV P qs ⟨a, b, c, d⟩ = false := by unfold ctV; rw [hlen, decide_eq_false hlt, Bool.false_and]
      have HR0 := Lib.hid (HV.out.symm.trans hv)
      clear hv HV BS
      go_upto_region 2 with fail
      go_region
      go_wp2
      go_ret
      exact ⟨ret_bool HR0.out.symm, H2.out.drew⟩
end Go.Proofs.Ytoiaggjjfahabaa
