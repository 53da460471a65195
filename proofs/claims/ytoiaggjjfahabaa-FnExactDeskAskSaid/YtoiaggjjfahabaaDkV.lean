/- spec.DeskValid: what it computes. Condition: short lists; the taken ones lie in a slice that is not nil. -/
import Derived.Test.YtoiaggjjfahabaaDkI
namespace Go.Proofs.Ytoiaggjjfahabaa
open Go.RowKit
set_option linter.unusedVariables false
set_option linter.unusedSimpArgs false
set_option maxRecDepth 100000 in
set_option maxHeartbeats 4000000 in
theorem DeskValid_s (P : Int) (p : Addr) (B : Option Addr) (n cap m cap2 : Nat) (ts rs : List Quad) (w : World) (hA : Books w (some p) n ts) (hB : Books w B m rs) (hn : n ≤ 1048576) (hm : m ≤ 1048576) :
    Calls Try.prog 16 #[.agg #[.int .i64 P, .slice (some p) n cap, .slice B m cap2]] w fun e w' => e = .returned (.bool (dvV P ts rs)) ∧ Below w.heap.size w w' := by
  have hbW : Below w.heap.size w (w.alloc (.cells #[.int .i64 P, .slice (some p) n cap, .slice B m cap2] 38)) := (Below.refl _ _).alloc (Nat.le_refl _) _
  have hBx := Blk.new w 38 #[.int .i64 P, .slice (some p) n cap, .slice B m cap2]
  have hl := hA.1
  have hl2 := hB.1
  have LI := Lib.hid (fun w' (hb : Below w.heap.size w w') => l1In_any P 1 7 w')
  have BV := Lib.hid (fun w' (hb : Below w.heap.size w w') => BooksValid_s (some p) n cap ts w' (hA.below hb) (by omega))
  have BM := Lib.hid (fun w' (hb : Below w.heap.size w w') => BooksMost_s (some p) n cap ts w' (hA.below hb) (by omega))
  have HA := Lib.hid hA
  have HB := Lib.hid hB
  clear hA hB
  obtain ⟨V, hV⟩ : ∃ V, bmV ts = V := ⟨_, rfl⟩
  have hcases : ¬ (1 ≤ P ∧ P ≤ 7) ∨ ((1 ≤ P ∧ P ≤ 7) ∧ bsV ts = false) ∨ ((1 ≤ P ∧ P ≤ 7) ∧ bsV ts = true ∧ P < V) ∨ ((1 ≤ P ∧ P ≤ 7) ∧ bsV ts = true ∧ ¬ P < V ∧ 5 < m) ∨ ((1 ≤ P ∧ P ≤ 7) ∧ bsV ts = true ∧ ¬ P < V ∧ ¬ 5 < m) := by
    cases bsV ts <;> simp <;> omega
  obtain ⟨R, hR⟩ : ∃ R, dvV P ts rs = R := ⟨_, rfl⟩
  rw [hR]
  have HR := Lib.hid hR
  rw [hV] at BM
  clear hR
  go_enter Try.func16, Try.ntmps16
  go_upto_region 1 with fail
  generalize (w.alloc (.cells #[.int .i64 P, .slice (some p) n cap, .slice B m cap2] 38)) = W at *
  have k0 := hBx.cell 0
  have k1 := hBx.cell 1
  have k2 := hBx.cell 2
  simp at k0 k1 k2
  have lW := hBx.lt
  have HW := Lib.hid hbW
  clear hBx hbW
  have hS0 : DkS W w.heap.size P (some p) B n cap m cap2 W.drew := ⟨(Below.refl _ _).drew, k0, k1, k2⟩
  have HSB := Lib.hid (fun w1 w2 (h1 : DkS W w.heap.size P (some p) B n cap m cap2 w1) (h2 : Below w1.heap.size w1 w2) => h1.below lW h2)
  clear k0 k1 k2
  rcases hcases with h1 | ⟨h1, h3⟩ | ⟨h1, h3, h4⟩ | ⟨h1, h3, h4, h5⟩ | ⟨h1, h3, h4, h5⟩
  · have hr := Lib.hid (HR.out.symm.trans (dv_head (head_no (P := P) (ts := ts) (rs := rs) (fun g => by omega))))
    rw [inR_no h1] at LI
    clear h1 hV
    refine wp_region_det (S := fun w' => Below W.heap.size W w' ∧ w'.cell? ⟨w.heap.size, 0, none⟩ = some (.int .i64 P) ∧ w'.cell? ⟨w.heap.size, 1, none⟩ = some (.slice (some p) n cap) ∧ w'.cell? ⟨w.heap.size, 2, none⟩ = some (.slice B m cap2)) (by kernel_rfl) hS0 ?_
    ((refine tk_val (i := 0) (v := ?v0_621) (by (simp only [List.getElem?_toArray, List.getElem?_cons_succ, List.getElem?_cons_zero]; rfl)) (by kernel_rfl) (by kernel_rfl) (by kernel_rfl) (by rfl) ?h0_621 ?r0_621; (case h0_621 => (intro wS hSw; (try dsimp only at hSw); go_simp; (first | done | (with_reducible rfl)))); (try simp only [Act.put, List.setIfInBounds_toArray, List.set_cons_zero, List.set_cons_succ]));
                              (refine tk_val (i := 1) (v := ?v1_623) (by (simp only [List.getElem?_toArray, List.getElem?_cons_succ, List.getElem?_cons_zero]; rfl)) (by kernel_rfl) (by kernel_rfl) (by kernel_rfl) (by rfl) ?h1_623 ?r1_623; (case h1_623 => (intro wS hSw; (try dsimp only at hSw); go_simp; (first | done | (with_reducible rfl)))); (try simp only [Act.put, List.setIfInBounds_toArray, List.set_cons_zero, List.set_cons_succ])))
    refine tk_call (i := 2) (v := .bool false) (by (simp only [List.getElem?_toArray, List.getElem?_cons_succ, List.getElem?_cons_zero]; rfl)) (by kernel_rfl) (by kernel_rfl) (by kernel_rfl) (by rfl) (f := ?f2_598) (args := ?a2_598) ?e2_598 ?h2_598 ?r2_598; (case e2_598 => (intro wS hSw; (try dsimp only at hSw); go_simp; (first | done | (apply And.intro <;> rfl) | (with_reducible rfl))))
    · exact fun w1 h1 => (LI.out w1 (bt HW.out h1.1)).mono fun e w2 ⟨he, hb⟩ => ⟨he, by rw [← hb]; exact h1⟩
    (try simp only [Act.put, List.setIfInBounds_toArray, List.set_cons_zero, List.set_cons_succ])
    ((refine tk_val (i := 3) (v := ?v3_625) (by (simp only [List.getElem?_toArray, List.getElem?_cons_succ, List.getElem?_cons_zero]; rfl)) (by kernel_rfl) (by kernel_rfl) (by kernel_rfl) (by rfl) ?h3_625 ?r3_625; (case h3_625 => (intro wS hSw; (try dsimp only at hSw); go_simp; (first | done | (with_reducible rfl)))); (try simp only [Act.put, List.setIfInBounds_toArray, List.set_cons_zero, List.set_cons_succ]));
                              (refine tk_val (i := 4) (v := ?v4_627) (by (simp only [List.getElem?_toArray, List.getElem?_cons_succ, List.getElem?_cons_zero]; rfl)) (by kernel_rfl) (by kernel_rfl) (by kernel_rfl) (by rfl) ?h4_627 ?r4_627; (case h4_627 => (intro wS hSw; (try dsimp only at hSw); go_simp; (first | done | (with_reducible rfl)))); (try simp only [Act.put, List.setIfInBounds_toArray, List.set_cons_zero, List.set_cons_succ])))
    ((first | (refine tk_skip (i := 5) (by (simp only [List.getElem?_toArray, List.getElem?_cons_succ, List.getElem?_cons_zero]; rfl)) (by kernel_rfl) (by kernel_rfl) (by kernel_rfl) (by rfl) ?r5_630; (try simp only [Act.put, List.setIfInBounds_toArray, List.set_cons_zero, List.set_cons_succ])) | (refine tk_val (i := 5) (v := ?v5_629) (by (simp only [List.getElem?_toArray, List.getElem?_cons_succ, List.getElem?_cons_zero]; rfl)) (by kernel_rfl) (by kernel_rfl) (by kernel_rfl) (by rfl) ?h5_629 ?r5_629; (case h5_629 => (intro wS hSw; (try dsimp only at hSw); go_simp; (first | done | (with_reducible rfl)))); (try simp only [Act.put, List.setIfInBounds_toArray, List.set_cons_zero, List.set_cons_succ])));
                              (first | (refine tk_skip (i := 6) (by (simp only [List.getElem?_toArray, List.getElem?_cons_succ, List.getElem?_cons_zero]; rfl)) (by kernel_rfl) (by kernel_rfl) (by kernel_rfl) (by rfl) ?r6_632; (try simp only [Act.put, List.setIfInBounds_toArray, List.set_cons_zero, List.set_cons_succ])) | (refine tk_val (i := 6) (v := ?v6_631) (by (simp only [List.getElem?_toArray, List.getElem?_cons_succ, List.getElem?_cons_zero]; rfl)) (by kernel_rfl) (by kernel_rfl) (by kernel_rfl) (by rfl) ?h6_631 ?r6_631; (case h6_631 => (intro wS hSw; (try dsimp only at hSw); go_simp; (first | done | (with_reducible rfl)))); (try simp only [Act.put, List.setIfInBounds_toArray, List.set_cons_zero, List.set_cons_succ])));
                              (first | (refine tk_skip (i := 7) (by (simp only [List.getElem?_toArray, List.getElem?_cons_succ, List.getElem?_cons_zero]; rfl)) (by kernel_rfl) (by kernel_rfl) (by kernel_rfl) (by rfl) ?r7_634; (try simp only [Act.put, List.setIfInBounds_toArray, List.set_cons_zero, List.set_cons_succ])) | (refine tk_val (i := 7) (v := ?v7_633) (by (simp only [List.getElem?_toArray, List.getElem?_cons_succ, List.getElem?_cons_zero]; rfl)) (by kernel_rfl) (by kernel_rfl) (by kernel_rfl) (by rfl) ?h7_633 ?r7_633; (case h7_633 => (intro wS hSw; (try dsimp only at hSw); go_simp; (first | done | (with_reducible rfl)))); (try simp only [Act.put, List.setIfInBounds_toArray, List.set_cons_zero, List.set_cons_succ])));
                              (first | (refine tk_skip (i := 8) (by (simp only [List.getElem?_toArray, List.getElem?_cons_succ, List.getElem?_cons_zero]; rfl)) (by kernel_rfl) (by kernel_rfl) (by kernel_rfl) (by rfl) ?r8_636; (try simp only [Act.put, List.setIfInBounds_toArray, List.set_cons_zero, List.set_cons_succ])) | (refine tk_val (i := 8) (v := ?v8_635) (by (simp only [List.getElem?_toArray, List.getElem?_cons_succ, List.getElem?_cons_zero]; rfl)) (by kernel_rfl) (by kernel_rfl) (by kernel_rfl) (by rfl) ?h8_635 ?r8_635; (case h8_635 => (intro wS hSw; (try dsimp only at hSw); go_simp; (first | done | (with_reducible rfl)))); (try simp only [Act.put, List.setIfInBounds_toArray, List.set_cons_zero, List.set_cons_succ])));
                              (first | (refine tk_skip (i := 9) (by (simp only [List.getElem?_toArray, List.getElem?_cons_succ, List.getElem?_cons_zero]; rfl)) (by kernel_rfl) (by kernel_rfl) (by kernel_rfl) (by rfl) ?r9_638; (try simp only [Act.put, List.setIfInBounds_toArray, List.set_cons_zero, List.set_cons_succ])) | (refine tk_val (i := 9) (v := ?v9_637) (by (simp only [List.getElem?_toArray, List.getElem?_cons_succ, List.getElem?_cons_zero]; rfl)) (by kernel_rfl) (by kernel_rfl) (by kernel_rfl) (by rfl) ?h9_637 ?r9_637; (case h9_637 => (intro wS hSw; (try dsimp only at hSw); go_simp; (first | done | (with_reducible rfl)))); (try simp only [Act.put, List.setIfInBounds_toArray, List.set_cons_zero, List.set_cons_succ])));
                              (first | (refine tk_skip (i := 10) (by (simp only [List.getElem?_toArray, List.getElem?_cons_succ, List.getElem?_cons_zero]; rfl)) (by kernel_rfl) (by kernel_rfl) (by kernel_rfl) (by rfl) ?r10_640; (try simp only [Act.put, List.setIfInBounds_toArray, List.set_cons_zero, List.set_cons_succ])) | (refine tk_val (i := 10) (v := ?v10_639) (by (simp only [List.getElem?_toArray, List.getElem?_cons_succ, List.getElem?_cons_zero]; rfl)) (by kernel_rfl) (by kernel_rfl) (by kernel_rfl) (by rfl) ?h10_639 ?r10_639; (case h10_639 => (intro wS hSw; (try dsimp only at hSw); go_simp; (first | done | (with_reducible rfl)))); (try simp only [Act.put, List.setIfInBounds_toArray, List.set_cons_zero, List.set_cons_succ])));
                              (first | (refine tk_skip (i := 11) (by (simp only [List.getElem?_toArray, List.getElem?_cons_succ, List.getElem?_cons_zero]; rfl)) (by kernel_rfl) (by kernel_rfl) (by kernel_rfl) (by rfl) ?r11_642; (try simp only [Act.put, List.setIfInBounds_toArray, List.set_cons_zero, List.set_cons_succ])) | (refine tk_val (i := 11) (v := ?v11_641) (by (simp only [List.getElem?_toArray, List.getElem?_cons_succ, List.getElem?_cons_zero]; rfl)) (by kernel_rfl) (by kernel_rfl) (by kernel_rfl) (by rfl) ?h11_641 ?r11_641; (case h11_641 => (intro wS hSw; (try dsimp only at hSw); go_simp; (first | done | (with_reducible rfl)))); (try simp only [Act.put, List.setIfInBounds_toArray, List.set_cons_zero, List.set_cons_succ])));
                              (first | (refine tk_skip (i := 12) (by (simp only [List.getElem?_toArray, List.getElem?_cons_succ, List.getElem?_cons_zero]; rfl)) (by kernel_rfl) (by kernel_rfl) (by kernel_rfl) (by rfl) ?r12_644; (try simp only [Act.put, List.setIfInBounds_toArray, List.set_cons_zero, List.set_cons_succ])) | (refine tk_val (i := 12) (v := ?v12_643) (by (simp only [List.getElem?_toArray, List.getElem?_cons_succ, List.getElem?_cons_zero]; rfl)) (by kernel_rfl) (by kernel_rfl) (by kernel_rfl) (by rfl) ?h12_643 ?r12_643; (case h12_643 => (intro wS hSw; (try dsimp only at hSw); go_simp; (first | done | (with_reducible rfl)))); (try simp only [Act.put, List.setIfInBounds_toArray, List.set_cons_zero, List.set_cons_succ])));
                              (first | (refine tk_skip (i := 13) (by (simp only [List.getElem?_toArray, List.getElem?_cons_succ, List.getElem?_cons_zero]; rfl)) (by kernel_rfl) (by kernel_rfl) (by kernel_rfl) (by rfl) ?r13_646; (try simp only [Act.put, List.setIfInBounds_toArray, List.set_cons_zero, List.set_cons_succ])) | (refine tk_val (i := 13) (v := ?v13_645) (by (simp only [List.getElem?_toArray, List.getElem?_cons_succ, List.getElem?_cons_zero]; rfl)) (by kernel_rfl) (by kernel_rfl) (by kernel_rfl) (by rfl) ?h13_645 ?r13_645; (case h13_645 => (intro wS hSw; (try dsimp only at hSw); go_simp; (first | done | (with_reducible rfl)))); (try simp only [Act.put, List.setIfInBounds_toArray, List.set_cons_zero, List.set_cons_succ])));
                              (first | (refine tk_skip (i := 14) (by (simp only [List.getElem?_toArray, List.getElem?_cons_succ, List.getElem?_cons_zero]; rfl)) (by kernel_rfl) (by kernel_rfl) (by kernel_rfl) (by rfl) ?r14_648; (try simp only [Act.put, List.setIfInBounds_toArray, List.set_cons_zero, List.set_cons_succ])) | (refine tk_val (i := 14) (v := ?v14_647) (by (simp only [List.getElem?_toArray, List.getElem?_cons_succ, List.getElem?_cons_zero]; rfl)) (by kernel_rfl) (by kernel_rfl) (by kernel_rfl) (by rfl) ?h14_647 ?r14_647; (case h14_647 => (intro wS hSw; (try dsimp only at hSw); go_simp; (first | done | (with_reducible rfl)))); (try simp only [Act.put, List.setIfInBounds_toArray, List.set_cons_zero, List.set_cons_succ])));
                              (first | (refine tk_skip (i := 15) (by (simp only [List.getElem?_toArray, List.getElem?_cons_succ, List.getElem?_cons_zero]; rfl)) (by kernel_rfl) (by kernel_rfl) (by kernel_rfl) (by rfl) ?r15_650; (try simp only [Act.put, List.setIfInBounds_toArray, List.set_cons_zero, List.set_cons_succ])) | (refine tk_val (i := 15) (v := ?v15_649) (by (simp only [List.getElem?_toArray, List.getElem?_cons_succ, List.getElem?_cons_zero]; rfl)) (by kernel_rfl) (by kernel_rfl) (by kernel_rfl) (by rfl) ?h15_649 ?r15_649; (case h15_649 => (intro wS hSw; (try dsimp only at hSw); go_simp; (first | done | (with_reducible rfl)))); (try simp only [Act.put, List.setIfInBounds_toArray, List.set_cons_zero, List.set_cons_succ])));
                              (first | (refine tk_skip (i := 16) (by (simp only [List.getElem?_toArray, List.getElem?_cons_succ, List.getElem?_cons_zero]; rfl)) (by kernel_rfl) (by kernel_rfl) (by kernel_rfl) (by rfl) ?r16_652; (try simp only [Act.put, List.setIfInBounds_toArray, List.set_cons_zero, List.set_cons_succ])) | (refine tk_val (i := 16) (v := ?v16_651) (by (simp only [List.getElem?_toArray, List.getElem?_cons_succ, List.getElem?_cons_zero]; rfl)) (by kernel_rfl) (by kernel_rfl) (by kernel_rfl) (by rfl) ?h16_651 ?r16_651; (case h16_651 => (intro wS hSw; (try dsimp only at hSw); go_simp; (first | done | (with_reducible rfl)))); (try simp only [Act.put, List.setIfInBounds_toArray, List.set_cons_zero, List.set_cons_succ])));
                              (first | (refine tk_skip (i := 17) (by (simp only [List.getElem?_toArray, List.getElem?_cons_succ, List.getElem?_cons_zero]; rfl)) (by kernel_rfl) (by kernel_rfl) (by kernel_rfl) (by rfl) ?r17_654; (try simp only [Act.put, List.setIfInBounds_toArray, List.set_cons_zero, List.set_cons_succ])) | (refine tk_val (i := 17) (v := ?v17_653) (by (simp only [List.getElem?_toArray, List.getElem?_cons_succ, List.getElem?_cons_zero]; rfl)) (by kernel_rfl) (by kernel_rfl) (by kernel_rfl) (by rfl) ?h17_653 ?r17_653; (case h17_653 => (intro wS hSw; (try dsimp only at hSw); go_simp; (first | done | (with_reducible rfl)))); (try simp only [Act.put, List.setIfInBounds_toArray, List.set_cons_zero, List.set_cons_succ])));
                              (first | (refine tk_skip (i := 18) (by (simp only [List.getElem?_toArray, List.getElem?_cons_succ, List.getElem?_cons_zero]; rfl)) (by kernel_rfl) (by kernel_rfl) (by kernel_rfl) (by rfl) ?r18_656; (try simp only [Act.put, List.setIfInBounds_toArray, List.set_cons_zero, List.set_cons_succ])) | (refine tk_val (i := 18) (v := ?v18_655) (by (simp only [List.getElem?_toArray, List.getElem?_cons_succ, List.getElem?_cons_zero]; rfl)) (by kernel_rfl) (by kernel_rfl) (by kernel_rfl) (by rfl) ?h18_655 ?r18_655; (case h18_655 => (intro wS hSw; (try dsimp only at hSw); go_simp; (first | done | (with_reducible rfl)))); (try simp only [Act.put, List.setIfInBounds_toArray, List.set_cons_zero, List.set_cons_succ])));
                              (first | (refine tk_skip (i := 19) (by (simp only [List.getElem?_toArray, List.getElem?_cons_succ, List.getElem?_cons_zero]; rfl)) (by kernel_rfl) (by kernel_rfl) (by kernel_rfl) (by rfl) ?r19_658; (try simp only [Act.put, List.setIfInBounds_toArray, List.set_cons_zero, List.set_cons_succ])) | (refine tk_val (i := 19) (v := ?v19_657) (by (simp only [List.getElem?_toArray, List.getElem?_cons_succ, List.getElem?_cons_zero]; rfl)) (by kernel_rfl) (by kernel_rfl) (by kernel_rfl) (by rfl) ?h19_657 ?r19_657; (case h19_657 => (intro wS hSw; (try dsimp only at hSw); go_simp; (first | done | (with_reducible rfl)))); (try simp only [Act.put, List.setIfInBounds_toArray, List.set_cons_zero, List.set_cons_succ])));
                              (first | (refine tk_skip (i := 20) (by (simp only [List.getElem?_toArray, List.getElem?_cons_succ, List.getElem?_cons_zero]; rfl)) (by kernel_rfl) (by kernel_rfl) (by kernel_rfl) (by rfl) ?r20_660; (try simp only [Act.put, List.setIfInBounds_toArray, List.set_cons_zero, List.set_cons_succ])) | (refine tk_val (i := 20) (v := ?v20_659) (by (simp only [List.getElem?_toArray, List.getElem?_cons_succ, List.getElem?_cons_zero]; rfl)) (by kernel_rfl) (by kernel_rfl) (by kernel_rfl) (by rfl) ?h20_659 ?r20_659; (case h20_659 => (intro wS hSw; (try dsimp only at hSw); go_simp; (first | done | (with_reducible rfl)))); (try simp only [Act.put, List.setIfInBounds_toArray, List.set_cons_zero, List.set_cons_succ])));
                              (first | (refine tk_skip (i := 21) (by (simp only [List.getElem?_toArray, List.getElem?_cons_succ, List.getElem?_cons_zero]; rfl)) (by kernel_rfl) (by kernel_rfl) (by kernel_rfl) (by rfl) ?r21_662; (try simp only [Act.put, List.setIfInBounds_toArray, List.set_cons_zero, List.set_cons_succ])) | (refine tk_val (i := 21) (v := ?v21_661) (by (simp only [List.getElem?_toArray, List.getElem?_cons_succ, List.getElem?_cons_zero]; rfl)) (by kernel_rfl) (by kernel_rfl) (by kernel_rfl) (by rfl) ?h21_661 ?r21_661; (case h21_661 => (intro wS hSw; (try dsimp only at hSw); go_simp; (first | done | (with_reducible rfl)))); (try simp only [Act.put, List.setIfInBounds_toArray, List.set_cons_zero, List.set_cons_succ])));
                              (first | (refine tk_skip (i := 22) (by (simp only [List.getElem?_toArray, List.getElem?_cons_succ, List.getElem?_cons_zero]; rfl)) (by kernel_rfl) (by kernel_rfl) (by kernel_rfl) (by rfl) ?r22_664; (try simp only [Act.put, List.setIfInBounds_toArray, List.set_cons_zero, List.set_cons_succ])) | (refine tk_val (i := 22) (v := ?v22_663) (by (simp only [List.getElem?_toArray, List.getElem?_cons_succ, List.getElem?_cons_zero]; rfl)) (by kernel_rfl) (by kernel_rfl) (by kernel_rfl) (by rfl) ?h22_663 ?r22_663; (case h22_663 => (intro wS hSw; (try dsimp only at hSw); go_simp; (first | done | (with_reducible rfl)))); (try simp only [Act.put, List.setIfInBounds_toArray, List.set_cons_zero, List.set_cons_succ])));
                              (first | (refine tk_skip (i := 23) (by (simp only [List.getElem?_toArray, List.getElem?_cons_succ, List.getElem?_cons_zero]; rfl)) (by kernel_rfl) (by kernel_rfl) (by kernel_rfl) (by rfl) ?r23_666; (try simp only [Act.put, List.setIfInBounds_toArray, List.set_cons_zero, List.set_cons_succ])) | (refine tk_val (i := 23) (v := ?v23_665) (by (simp only [List.getElem?_toArray, List.getElem?_cons_succ, List.getElem?_cons_zero]; rfl)) (by kernel_rfl) (by kernel_rfl) (by kernel_rfl) (by rfl) ?h23_665 ?r23_665; (case h23_665 => (intro wS hSw; (try dsimp only at hSw); go_simp; (first | done | (with_reducible rfl)))); (try simp only [Act.put, List.setIfInBounds_toArray, List.set_cons_zero, List.set_cons_succ]))))
    refine wpD_done (by kernel_rfl) (fun w1 hS1 => ?_) _
    replace hS1 := hS1.1
    go_wp2_with fail
    go_ret
    exact ⟨ret_bool hr.out.symm, bt HW.out hS1⟩
  · have hr := Lib.hid (HR.out.symm.trans (dv_head (head_no (P := P) (ts := ts) (rs := rs) (fun g => by rw [h3] at g; simp at g))))
    rw [inR_yes h1] at LI
    rw [h3] at BV
    clear h1 h3 hV
    refine wp_region_det (S := fun w' => Below W.heap.size W w' ∧ w'.cell? ⟨w.heap.size, 0, none⟩ = some (.int .i64 P) ∧ w'.cell? ⟨w.heap.size, 1, none⟩ = some (.slice (some p) n cap) ∧ w'.cell? ⟨w.heap.size, 2, none⟩ = some (.slice B m cap2)) (by kernel_rfl) hS0 ?_
    ((refine tk_val (i := 0) (v := ?v0_667) (by (simp only [List.getElem?_toArray, List.getElem?_cons_succ, List.getElem?_cons_zero]; rfl)) (by kernel_rfl) (by kernel_rfl) (by kernel_rfl) (by rfl) ?h0_667 ?r0_667; (case h0_667 => (intro wS hSw; (try dsimp only at hSw); go_simp; (first | done | (with_reducible rfl)))); (try simp only [Act.put, List.setIfInBounds_toArray, List.set_cons_zero, List.set_cons_succ]));
                              (refine tk_val (i := 1) (v := ?v1_669) (by (simp only [List.getElem?_toArray, List.getElem?_cons_succ, List.getElem?_cons_zero]; rfl)) (by kernel_rfl) (by kernel_rfl) (by kernel_rfl) (by rfl) ?h1_669 ?r1_669; (case h1_669 => (intro wS hSw; (try dsimp only at hSw); go_simp; (first | done | (with_reducible rfl)))); (try simp only [Act.put, List.setIfInBounds_toArray, List.set_cons_zero, List.set_cons_succ])))
    refine tk_call (i := 2) (v := .bool true) (by (simp only [List.getElem?_toArray, List.getElem?_cons_succ, List.getElem?_cons_zero]; rfl)) (by kernel_rfl) (by kernel_rfl) (by kernel_rfl) (by rfl) (f := ?f2_600) (args := ?a2_600) ?e2_600 ?h2_600 ?r2_600; (case e2_600 => (intro wS hSw; (try dsimp only at hSw); go_simp; (first | done | (apply And.intro <;> rfl) | (with_reducible rfl))))
    · exact fun w1 h1 => (LI.out w1 (bt HW.out h1.1)).mono fun e w2 ⟨he, hb⟩ => ⟨he, by rw [← hb]; exact h1⟩
    (try simp only [Act.put, List.setIfInBounds_toArray, List.set_cons_zero, List.set_cons_succ])
    ((refine tk_val (i := 3) (v := ?v3_671) (by (simp only [List.getElem?_toArray, List.getElem?_cons_succ, List.getElem?_cons_zero]; rfl)) (by kernel_rfl) (by kernel_rfl) (by kernel_rfl) (by rfl) ?h3_671 ?r3_671; (case h3_671 => (intro wS hSw; (try dsimp only at hSw); go_simp; (first | done | (with_reducible rfl)))); (try simp only [Act.put, List.setIfInBounds_toArray, List.set_cons_zero, List.set_cons_succ]));
                              (refine tk_val (i := 4) (v := ?v4_673) (by (simp only [List.getElem?_toArray, List.getElem?_cons_succ, List.getElem?_cons_zero]; rfl)) (by kernel_rfl) (by kernel_rfl) (by kernel_rfl) (by rfl) ?h4_673 ?r4_673; (case h4_673 => (intro wS hSw; (try dsimp only at hSw); go_simp; (first | done | (with_reducible rfl)))); (try simp only [Act.put, List.setIfInBounds_toArray, List.set_cons_zero, List.set_cons_succ]));
                              (refine tk_val (i := 5) (v := ?v5_675) (by (simp only [List.getElem?_toArray, List.getElem?_cons_succ, List.getElem?_cons_zero]; rfl)) (by kernel_rfl) (by kernel_rfl) (by kernel_rfl) (by rfl) ?h5_675 ?r5_675; (case h5_675 => (intro wS hSw; (try dsimp only at hSw); go_simp; (first | done | (with_reducible rfl)))); (try simp only [Act.put, List.setIfInBounds_toArray, List.set_cons_zero, List.set_cons_succ]));
                              (refine tk_val (i := 6) (v := ?v6_677) (by (simp only [List.getElem?_toArray, List.getElem?_cons_succ, List.getElem?_cons_zero]; rfl)) (by kernel_rfl) (by kernel_rfl) (by kernel_rfl) (by rfl) ?h6_677 ?r6_677; (case h6_677 => (intro wS hSw; (try dsimp only at hSw); go_simp; (first | done | (with_reducible rfl)))); (try simp only [Act.put, List.setIfInBounds_toArray, List.set_cons_zero, List.set_cons_succ])))
    refine tk_call (i := 7) (v := .bool false) (by (simp only [List.getElem?_toArray, List.getElem?_cons_succ, List.getElem?_cons_zero]; rfl)) (by kernel_rfl) (by kernel_rfl) (by kernel_rfl) (by rfl) (f := ?f7_602) (args := ?a7_602) ?e7_602 ?h7_602 ?r7_602; (case e7_602 => (intro wS hSw; (try dsimp only at hSw); go_simp; (first | done | (apply And.intro <;> rfl) | (with_reducible rfl))))
    · exact fun w1 h1 => (BV.out w1 (bt HW.out h1.1)).mono fun e w2 ⟨he, hb⟩ => ⟨he, HSB.out w1 w2 h1 hb⟩
    (try simp only [Act.put, List.setIfInBounds_toArray, List.set_cons_zero, List.set_cons_succ])
    ((refine tk_val (i := 8) (v := ?v8_679) (by (simp only [List.getElem?_toArray, List.getElem?_cons_succ, List.getElem?_cons_zero]; rfl)) (by kernel_rfl) (by kernel_rfl) (by kernel_rfl) (by rfl) ?h8_679 ?r8_679; (case h8_679 => (intro wS hSw; (try dsimp only at hSw); go_simp; (first | done | (with_reducible rfl)))); (try simp only [Act.put, List.setIfInBounds_toArray, List.set_cons_zero, List.set_cons_succ]));
                              (refine tk_val (i := 9) (v := ?v9_681) (by (simp only [List.getElem?_toArray, List.getElem?_cons_succ, List.getElem?_cons_zero]; rfl)) (by kernel_rfl) (by kernel_rfl) (by kernel_rfl) (by rfl) ?h9_681 ?r9_681; (case h9_681 => (intro wS hSw; (try dsimp only at hSw); go_simp; (first | done | (with_reducible rfl)))); (try simp only [Act.put, List.setIfInBounds_toArray, List.set_cons_zero, List.set_cons_succ]));
                              (refine tk_val (i := 10) (v := ?v10_683) (by (simp only [List.getElem?_toArray, List.getElem?_cons_succ, List.getElem?_cons_zero]; rfl)) (by kernel_rfl) (by kernel_rfl) (by kernel_rfl) (by rfl) ?h10_683 ?r10_683; (case h10_683 => (intro wS hSw; (try dsimp only at hSw); go_simp; (first | done | (with_reducible rfl)))); (try simp only [Act.put, List.setIfInBounds_toArray, List.set_cons_zero, List.set_cons_succ])))
    ((first | (refine tk_skip (i := 11) (by (simp only [List.getElem?_toArray, List.getElem?_cons_succ, List.getElem?_cons_zero]; rfl)) (by kernel_rfl) (by kernel_rfl) (by kernel_rfl) (by rfl) ?r11_686; (try simp only [Act.put, List.setIfInBounds_toArray, List.set_cons_zero, List.set_cons_succ])) | (refine tk_val (i := 11) (v := ?v11_685) (by (simp only [List.getElem?_toArray, List.getElem?_cons_succ, List.getElem?_cons_zero]; rfl)) (by kernel_rfl) (by kernel_rfl) (by kernel_rfl) (by rfl) ?h11_685 ?r11_685; (case h11_685 => (intro wS hSw; (try dsimp only at hSw); go_simp; (first | done | (with_reducible rfl)))); (try simp only [Act.put, List.setIfInBounds_toArray, List.set_cons_zero, List.set_cons_succ])));
                              (first | (refine tk_skip (i := 12) (by (simp only [List.getElem?_toArray, List.getElem?_cons_succ, List.getElem?_cons_zero]; rfl)) (by kernel_rfl) (by kernel_rfl) (by kernel_rfl) (by rfl) ?r12_688; (try simp only [Act.put, List.setIfInBounds_toArray, List.set_cons_zero, List.set_cons_succ])) | (refine tk_val (i := 12) (v := ?v12_687) (by (simp only [List.getElem?_toArray, List.getElem?_cons_succ, List.getElem?_cons_zero]; rfl)) (by kernel_rfl) (by kernel_rfl) (by kernel_rfl) (by rfl) ?h12_687 ?r12_687; (case h12_687 => (intro wS hSw; (try dsimp only at hSw); go_simp; (first | done | (with_reducible rfl)))); (try simp only [Act.put, List.setIfInBounds_toArray, List.set_cons_zero, List.set_cons_succ])));
                              (first | (refine tk_skip (i := 13) (by (simp only [List.getElem?_toArray, List.getElem?_cons_succ, List.getElem?_cons_zero]; rfl)) (by kernel_rfl) (by kernel_rfl) (by kernel_rfl) (by rfl) ?r13_690; (try simp only [Act.put, List.setIfInBounds_toArray, List.set_cons_zero, List.set_cons_succ])) | (refine tk_val (i := 13) (v := ?v13_689) (by (simp only [List.getElem?_toArray, List.getElem?_cons_succ, List.getElem?_cons_zero]; rfl)) (by kernel_rfl) (by kernel_rfl) (by kernel_rfl) (by rfl) ?h13_689 ?r13_689; (case h13_689 => (intro wS hSw; (try dsimp only at hSw); go_simp; (first | done | (with_reducible rfl)))); (try simp only [Act.put, List.setIfInBounds_toArray, List.set_cons_zero, List.set_cons_succ])));
                              (first | (refine tk_skip (i := 14) (by (simp only [List.getElem?_toArray, List.getElem?_cons_succ, List.getElem?_cons_zero]; rfl)) (by kernel_rfl) (by kernel_rfl) (by kernel_rfl) (by rfl) ?r14_692; (try simp only [Act.put, List.setIfInBounds_toArray, List.set_cons_zero, List.set_cons_succ])) | (refine tk_val (i := 14) (v := ?v14_691) (by (simp only [List.getElem?_toArray, List.getElem?_cons_succ, List.getElem?_cons_zero]; rfl)) (by kernel_rfl) (by kernel_rfl) (by kernel_rfl) (by rfl) ?h14_691 ?r14_691; (case h14_691 => (intro wS hSw; (try dsimp only at hSw); go_simp; (first | done | (with_reducible rfl)))); (try simp only [Act.put, List.setIfInBounds_toArray, List.set_cons_zero, List.set_cons_succ])));
                              (first | (refine tk_skip (i := 15) (by (simp only [List.getElem?_toArray, List.getElem?_cons_succ, List.getElem?_cons_zero]; rfl)) (by kernel_rfl) (by kernel_rfl) (by kernel_rfl) (by rfl) ?r15_694; (try simp only [Act.put, List.setIfInBounds_toArray, List.set_cons_zero, List.set_cons_succ])) | (refine tk_val (i := 15) (v := ?v15_693) (by (simp only [List.getElem?_toArray, List.getElem?_cons_succ, List.getElem?_cons_zero]; rfl)) (by kernel_rfl) (by kernel_rfl) (by kernel_rfl) (by rfl) ?h15_693 ?r15_693; (case h15_693 => (intro wS hSw; (try dsimp only at hSw); go_simp; (first | done | (with_reducible rfl)))); (try simp only [Act.put, List.setIfInBounds_toArray, List.set_cons_zero, List.set_cons_succ])));
                              (first | (refine tk_skip (i := 16) (by (simp only [List.getElem?_toArray, List.getElem?_cons_succ, List.getElem?_cons_zero]; rfl)) (by kernel_rfl) (by kernel_rfl) (by kernel_rfl) (by rfl) ?r16_696; (try simp only [Act.put, List.setIfInBounds_toArray, List.set_cons_zero, List.set_cons_succ])) | (refine tk_val (i := 16) (v := ?v16_695) (by (simp only [List.getElem?_toArray, List.getElem?_cons_succ, List.getElem?_cons_zero]; rfl)) (by kernel_rfl) (by kernel_rfl) (by kernel_rfl) (by rfl) ?h16_695 ?r16_695; (case h16_695 => (intro wS hSw; (try dsimp only at hSw); go_simp; (first | done | (with_reducible rfl)))); (try simp only [Act.put, List.setIfInBounds_toArray, List.set_cons_zero, List.set_cons_succ])));
                              (first | (refine tk_skip (i := 17) (by (simp only [List.getElem?_toArray, List.getElem?_cons_succ, List.getElem?_cons_zero]; rfl)) (by kernel_rfl) (by kernel_rfl) (by kernel_rfl) (by rfl) ?r17_698; (try simp only [Act.put, List.setIfInBounds_toArray, List.set_cons_zero, List.set_cons_succ])) | (refine tk_val (i := 17) (v := ?v17_697) (by (simp only [List.getElem?_toArray, List.getElem?_cons_succ, List.getElem?_cons_zero]; rfl)) (by kernel_rfl) (by kernel_rfl) (by kernel_rfl) (by rfl) ?h17_697 ?r17_697; (case h17_697 => (intro wS hSw; (try dsimp only at hSw); go_simp; (first | done | (with_reducible rfl)))); (try simp only [Act.put, List.setIfInBounds_toArray, List.set_cons_zero, List.set_cons_succ])));
                              (first | (refine tk_skip (i := 18) (by (simp only [List.getElem?_toArray, List.getElem?_cons_succ, List.getElem?_cons_zero]; rfl)) (by kernel_rfl) (by kernel_rfl) (by kernel_rfl) (by rfl) ?r18_700; (try simp only [Act.put, List.setIfInBounds_toArray, List.set_cons_zero, List.set_cons_succ])) | (refine tk_val (i := 18) (v := ?v18_699) (by (simp only [List.getElem?_toArray, List.getElem?_cons_succ, List.getElem?_cons_zero]; rfl)) (by kernel_rfl) (by kernel_rfl) (by kernel_rfl) (by rfl) ?h18_699 ?r18_699; (case h18_699 => (intro wS hSw; (try dsimp only at hSw); go_simp; (first | done | (with_reducible rfl)))); (try simp only [Act.put, List.setIfInBounds_toArray, List.set_cons_zero, List.set_cons_succ])));
                              (first | (refine tk_skip (i := 19) (by (simp only [List.getElem?_toArray, List.getElem?_cons_succ, List.getElem?_cons_zero]; rfl)) (by kernel_rfl) (by kernel_rfl) (by kernel_rfl) (by rfl) ?r19_702; (try simp only [Act.put, List.setIfInBounds_toArray, List.set_cons_zero, List.set_cons_succ])) | (refine tk_val (i := 19) (v := ?v19_701) (by (simp only [List.getElem?_toArray, List.getElem?_cons_succ, List.getElem?_cons_zero]; rfl)) (by kernel_rfl) (by kernel_rfl) (by kernel_rfl) (by rfl) ?h19_701 ?r19_701; (case h19_701 => (intro wS hSw; (try dsimp only at hSw); go_simp; (first | done | (with_reducible rfl)))); (try simp only [Act.put, List.setIfInBounds_toArray, List.set_cons_zero, List.set_cons_succ])));
                              (first | (refine tk_skip (i := 20) (by (simp only [List.getElem?_toArray, List.getElem?_cons_succ, List.getElem?_cons_zero]; rfl)) (by kernel_rfl) (by kernel_rfl) (by kernel_rfl) (by rfl) ?r20_704; (try simp only [Act.put, List.setIfInBounds_toArray, List.set_cons_zero, List.set_cons_succ])) | (refine tk_val (i := 20) (v := ?v20_703) (by (simp only [List.getElem?_toArray, List.getElem?_cons_succ, List.getElem?_cons_zero]; rfl)) (by kernel_rfl) (by kernel_rfl) (by kernel_rfl) (by rfl) ?h20_703 ?r20_703; (case h20_703 => (intro wS hSw; (try dsimp only at hSw); go_simp; (first | done | (with_reducible rfl)))); (try simp only [Act.put, List.setIfInBounds_toArray, List.set_cons_zero, List.set_cons_succ])));
                              (first | (refine tk_skip (i := 21) (by (simp only [List.getElem?_toArray, List.getElem?_cons_succ, List.getElem?_cons_zero]; rfl)) (by kernel_rfl) (by kernel_rfl) (by kernel_rfl) (by rfl) ?r21_706; (try simp only [Act.put, List.setIfInBounds_toArray, List.set_cons_zero, List.set_cons_succ])) | (refine tk_val (i := 21) (v := ?v21_705) (by (simp only [List.getElem?_toArray, List.getElem?_cons_succ, List.getElem?_cons_zero]; rfl)) (by kernel_rfl) (by kernel_rfl) (by kernel_rfl) (by rfl) ?h21_705 ?r21_705; (case h21_705 => (intro wS hSw; (try dsimp only at hSw); go_simp; (first | done | (with_reducible rfl)))); (try simp only [Act.put, List.setIfInBounds_toArray, List.set_cons_zero, List.set_cons_succ])));
                              (first | (refine tk_skip (i := 22) (by (simp only [List.getElem?_toArray, List.getElem?_cons_succ, List.getElem?_cons_zero]; rfl)) (by kernel_rfl) (by kernel_rfl) (by kernel_rfl) (by rfl) ?r22_708; (try simp only [Act.put, List.setIfInBounds_toArray, List.set_cons_zero, List.set_cons_succ])) | (refine tk_val (i := 22) (v := ?v22_707) (by (simp only [List.getElem?_toArray, List.getElem?_cons_succ, List.getElem?_cons_zero]; rfl)) (by kernel_rfl) (by kernel_rfl) (by kernel_rfl) (by rfl) ?h22_707 ?r22_707; (case h22_707 => (intro wS hSw; (try dsimp only at hSw); go_simp; (first | done | (with_reducible rfl)))); (try simp only [Act.put, List.setIfInBounds_toArray, List.set_cons_zero, List.set_cons_succ])));
                              (first | (refine tk_skip (i := 23) (by (simp only [List.getElem?_toArray, List.getElem?_cons_succ, List.getElem?_cons_zero]; rfl)) (by kernel_rfl) (by kernel_rfl) (by kernel_rfl) (by rfl) ?r23_710; (try simp only [Act.put, List.setIfInBounds_toArray, List.set_cons_zero, List.set_cons_succ])) | (refine tk_val (i := 23) (v := ?v23_709) (by (simp only [List.getElem?_toArray, List.getElem?_cons_succ, List.getElem?_cons_zero]; rfl)) (by kernel_rfl) (by kernel_rfl) (by kernel_rfl) (by rfl) ?h23_709 ?r23_709; (case h23_709 => (intro wS hSw; (try dsimp only at hSw); go_simp; (first | done | (with_reducible rfl)))); (try simp only [Act.put, List.setIfInBounds_toArray, List.set_cons_zero, List.set_cons_succ]))))
    refine wpD_done (by kernel_rfl) (fun w1 hS1 => ?_) _
    replace hS1 := hS1.1
    go_wp2_with fail
    go_ret
    exact ⟨ret_bool hr.out.symm, bt HW.out hS1⟩
  · have c4 : decide (P < V) = true := by simpa using h4
    have hr := Lib.hid (HR.out.symm.trans (dv_head (head_no (P := P) (ts := ts) (rs := rs) (fun g => by omega))))
    rw [inR_yes h1] at LI
    rw [h3] at BV
    clear h1 h3 h4 hV
    refine wp_region_det (S := fun w' => Below W.heap.size W w' ∧ w'.cell? ⟨w.heap.size, 0, none⟩ = some (.int .i64 P) ∧ w'.cell? ⟨w.heap.size, 1, none⟩ = some (.slice (some p) n cap) ∧ w'.cell? ⟨w.heap.size, 2, none⟩ = some (.slice B m cap2)) (by kernel_rfl) hS0 ?_
    ((refine tk_val (i := 0) (v := ?v0_711) (by (simp only [List.getElem?_toArray, List.getElem?_cons_succ, List.getElem?_cons_zero]; rfl)) (by kernel_rfl) (by kernel_rfl) (by kernel_rfl) (by rfl) ?h0_711 ?r0_711; (case h0_711 => (intro wS hSw; (try dsimp only at hSw); go_simp; (first | done | (with_reducible rfl)))); (try simp only [Act.put, List.setIfInBounds_toArray, List.set_cons_zero, List.set_cons_succ]));
                              (refine tk_val (i := 1) (v := ?v1_713) (by (simp only [List.getElem?_toArray, List.getElem?_cons_succ, List.getElem?_cons_zero]; rfl)) (by kernel_rfl) (by kernel_rfl) (by kernel_rfl) (by rfl) ?h1_713 ?r1_713; (case h1_713 => (intro wS hSw; (try dsimp only at hSw); go_simp; (first | done | (with_reducible rfl)))); (try simp only [Act.put, List.setIfInBounds_toArray, List.set_cons_zero, List.set_cons_succ])))
    refine tk_call (i := 2) (v := .bool true) (by (simp only [List.getElem?_toArray, List.getElem?_cons_succ, List.getElem?_cons_zero]; rfl)) (by kernel_rfl) (by kernel_rfl) (by kernel_rfl) (by rfl) (f := ?f2_604) (args := ?a2_604) ?e2_604 ?h2_604 ?r2_604; (case e2_604 => (intro wS hSw; (try dsimp only at hSw); go_simp; (first | done | (apply And.intro <;> rfl) | (with_reducible rfl))))
    · exact fun w1 h1 => (LI.out w1 (bt HW.out h1.1)).mono fun e w2 ⟨he, hb⟩ => ⟨he, by rw [← hb]; exact h1⟩
    (try simp only [Act.put, List.setIfInBounds_toArray, List.set_cons_zero, List.set_cons_succ])
    ((refine tk_val (i := 3) (v := ?v3_715) (by (simp only [List.getElem?_toArray, List.getElem?_cons_succ, List.getElem?_cons_zero]; rfl)) (by kernel_rfl) (by kernel_rfl) (by kernel_rfl) (by rfl) ?h3_715 ?r3_715; (case h3_715 => (intro wS hSw; (try dsimp only at hSw); go_simp; (first | done | (with_reducible rfl)))); (try simp only [Act.put, List.setIfInBounds_toArray, List.set_cons_zero, List.set_cons_succ]));
                              (refine tk_val (i := 4) (v := ?v4_717) (by (simp only [List.getElem?_toArray, List.getElem?_cons_succ, List.getElem?_cons_zero]; rfl)) (by kernel_rfl) (by kernel_rfl) (by kernel_rfl) (by rfl) ?h4_717 ?r4_717; (case h4_717 => (intro wS hSw; (try dsimp only at hSw); go_simp; (first | done | (with_reducible rfl)))); (try simp only [Act.put, List.setIfInBounds_toArray, List.set_cons_zero, List.set_cons_succ]));
                              (refine tk_val (i := 5) (v := ?v5_719) (by (simp only [List.getElem?_toArray, List.getElem?_cons_succ, List.getElem?_cons_zero]; rfl)) (by kernel_rfl) (by kernel_rfl) (by kernel_rfl) (by rfl) ?h5_719 ?r5_719; (case h5_719 => (intro wS hSw; (try dsimp only at hSw); go_simp; (first | done | (with_reducible rfl)))); (try simp only [Act.put, List.setIfInBounds_toArray, List.set_cons_zero, List.set_cons_succ]));
                              (refine tk_val (i := 6) (v := ?v6_721) (by (simp only [List.getElem?_toArray, List.getElem?_cons_succ, List.getElem?_cons_zero]; rfl)) (by kernel_rfl) (by kernel_rfl) (by kernel_rfl) (by rfl) ?h6_721 ?r6_721; (case h6_721 => (intro wS hSw; (try dsimp only at hSw); go_simp; (first | done | (with_reducible rfl)))); (try simp only [Act.put, List.setIfInBounds_toArray, List.set_cons_zero, List.set_cons_succ])))
    refine tk_call (i := 7) (v := .bool true) (by (simp only [List.getElem?_toArray, List.getElem?_cons_succ, List.getElem?_cons_zero]; rfl)) (by kernel_rfl) (by kernel_rfl) (by kernel_rfl) (by rfl) (f := ?f7_606) (args := ?a7_606) ?e7_606 ?h7_606 ?r7_606; (case e7_606 => (intro wS hSw; (try dsimp only at hSw); go_simp; (first | done | (apply And.intro <;> rfl) | (with_reducible rfl))))
    · exact fun w1 h1 => (BV.out w1 (bt HW.out h1.1)).mono fun e w2 ⟨he, hb⟩ => ⟨he, HSB.out w1 w2 h1 hb⟩
    (try simp only [Act.put, List.setIfInBounds_toArray, List.set_cons_zero, List.set_cons_succ])
    ((refine tk_val (i := 8) (v := ?v8_723) (by (simp only [List.getElem?_toArray, List.getElem?_cons_succ, List.getElem?_cons_zero]; rfl)) (by kernel_rfl) (by kernel_rfl) (by kernel_rfl) (by rfl) ?h8_723 ?r8_723; (case h8_723 => (intro wS hSw; (try dsimp only at hSw); go_simp; (first | done | (with_reducible rfl)))); (try simp only [Act.put, List.setIfInBounds_toArray, List.set_cons_zero, List.set_cons_succ]));
                              (refine tk_val (i := 9) (v := ?v9_725) (by (simp only [List.getElem?_toArray, List.getElem?_cons_succ, List.getElem?_cons_zero]; rfl)) (by kernel_rfl) (by kernel_rfl) (by kernel_rfl) (by rfl) ?h9_725 ?r9_725; (case h9_725 => (intro wS hSw; (try dsimp only at hSw); go_simp; (first | done | (with_reducible rfl)))); (try simp only [Act.put, List.setIfInBounds_toArray, List.set_cons_zero, List.set_cons_succ]));
                              (refine tk_val (i := 10) (v := ?v10_727) (by (simp only [List.getElem?_toArray, List.getElem?_cons_succ, List.getElem?_cons_zero]; rfl)) (by kernel_rfl) (by kernel_rfl) (by kernel_rfl) (by rfl) ?h10_727 ?r10_727; (case h10_727 => (intro wS hSw; (try dsimp only at hSw); go_simp; (first | done | (with_reducible rfl)))); (try simp only [Act.put, List.setIfInBounds_toArray, List.set_cons_zero, List.set_cons_succ]));
                              (refine tk_val (i := 11) (v := ?v11_729) (by (simp only [List.getElem?_toArray, List.getElem?_cons_succ, List.getElem?_cons_zero]; rfl)) (by kernel_rfl) (by kernel_rfl) (by kernel_rfl) (by rfl) ?h11_729 ?r11_729; (case h11_729 => (intro wS hSw; (try dsimp only at hSw); go_simp; (first | done | (with_reducible rfl)))); (try simp only [Act.put, List.setIfInBounds_toArray, List.set_cons_zero, List.set_cons_succ]));
                              (refine tk_val (i := 12) (v := ?v12_731) (by (simp only [List.getElem?_toArray, List.getElem?_cons_succ, List.getElem?_cons_zero]; rfl)) (by kernel_rfl) (by kernel_rfl) (by kernel_rfl) (by rfl) ?h12_731 ?r12_731; (case h12_731 => (intro wS hSw; (try dsimp only at hSw); go_simp; (first | done | (with_reducible rfl)))); (try simp only [Act.put, List.setIfInBounds_toArray, List.set_cons_zero, List.set_cons_succ])))
    refine tk_call (i := 13) (v := .int .i64 V) (by (simp only [List.getElem?_toArray, List.getElem?_cons_succ, List.getElem?_cons_zero]; rfl)) (by kernel_rfl) (by kernel_rfl) (by kernel_rfl) (by rfl) (f := ?f13_608) (args := ?a13_608) ?e13_608 ?h13_608 ?r13_608; (case e13_608 => (intro wS hSw; (try dsimp only at hSw); go_simp; (first | done | (apply And.intro <;> rfl) | (with_reducible rfl))))
    · exact fun w1 h1 => (BM.out w1 (bt HW.out h1.1)).mono fun e w2 ⟨he, hb⟩ => ⟨he, HSB.out w1 w2 h1 hb⟩
    (try simp only [Act.put, List.setIfInBounds_toArray, List.set_cons_zero, List.set_cons_succ])
    ((refine tk_val (i := 14) (v := ?v14_733) (by (simp only [List.getElem?_toArray, List.getElem?_cons_succ, List.getElem?_cons_zero]; rfl)) (by kernel_rfl) (by kernel_rfl) (by kernel_rfl) (by rfl) ?h14_733 ?r14_733; (case h14_733 => (intro wS hSw; (try dsimp only at hSw); go_simp; (first | done | (with_reducible rfl)))); (try simp only [Act.put, List.setIfInBounds_toArray, List.set_cons_zero, List.set_cons_succ]));
                              (refine tk_val (i := 15) (v := ?v15_735) (by (simp only [List.getElem?_toArray, List.getElem?_cons_succ, List.getElem?_cons_zero]; rfl)) (by kernel_rfl) (by kernel_rfl) (by kernel_rfl) (by rfl) ?h15_735 ?r15_735; (case h15_735 => (intro wS hSw; (try dsimp only at hSw); go_simp; (first | done | (with_reducible rfl)))); (try simp only [Act.put, List.setIfInBounds_toArray, List.set_cons_zero, List.set_cons_succ]));
                              (refine tk_val (i := 16) (v := ?v16_737) (by (simp only [List.getElem?_toArray, List.getElem?_cons_succ, List.getElem?_cons_zero]; rfl)) (by kernel_rfl) (by kernel_rfl) (by kernel_rfl) (by rfl) ?h16_737 ?r16_737; (case h16_737 => (intro wS hSw; (try dsimp only at hSw); go_simp; (first | done | (with_reducible rfl)))); (try simp only [Act.put, List.setIfInBounds_toArray, List.set_cons_zero, List.set_cons_succ]));
                              (refine tk_val (i := 17) (v := ?v17_739) (by (simp only [List.getElem?_toArray, List.getElem?_cons_succ, List.getElem?_cons_zero]; rfl)) (by kernel_rfl) (by kernel_rfl) (by kernel_rfl) (by rfl) ?h17_739 ?r17_739; (case h17_739 => (intro wS hSw; (try dsimp only at hSw); go_simp; (first | done | (with_reducible rfl)))); (try simp only [Act.put, List.setIfInBounds_toArray, List.set_cons_zero, List.set_cons_succ]));
                              (refine tk_val (i := 18) (v := ?v18_741) (by (simp only [List.getElem?_toArray, List.getElem?_cons_succ, List.getElem?_cons_zero]; rfl)) (by kernel_rfl) (by kernel_rfl) (by kernel_rfl) (by rfl) ?h18_741 ?r18_741; (case h18_741 => (intro wS hSw; (try dsimp only at hSw); go_simp; (first | done | (with_reducible rfl)))); (try simp only [Act.put, List.setIfInBounds_toArray, List.set_cons_zero, List.set_cons_succ])))
    ((first | (refine tk_skip (i := 19) (by (simp only [List.getElem?_toArray, List.getElem?_cons_succ, List.getElem?_cons_zero]; rfl)) (by kernel_rfl) (by kernel_rfl) (by kernel_rfl) (by rfl) ?r19_744; (try simp only [Act.put, List.setIfInBounds_toArray, List.set_cons_zero, List.set_cons_succ])) | (refine tk_val (i := 19) (v := ?v19_743) (by (simp only [List.getElem?_toArray, List.getElem?_cons_succ, List.getElem?_cons_zero]; rfl)) (by kernel_rfl) (by kernel_rfl) (by kernel_rfl) (by rfl) ?h19_743 ?r19_743; (case h19_743 => (intro wS hSw; (try dsimp only at hSw); go_simp; (first | done | (with_reducible rfl)))); (try simp only [Act.put, List.setIfInBounds_toArray, List.set_cons_zero, List.set_cons_succ])));
                              (first | (refine tk_skip (i := 20) (by (simp only [List.getElem?_toArray, List.getElem?_cons_succ, List.getElem?_cons_zero]; rfl)) (by kernel_rfl) (by kernel_rfl) (by kernel_rfl) (by rfl) ?r20_746; (try simp only [Act.put, List.setIfInBounds_toArray, List.set_cons_zero, List.set_cons_succ])) | (refine tk_val (i := 20) (v := ?v20_745) (by (simp only [List.getElem?_toArray, List.getElem?_cons_succ, List.getElem?_cons_zero]; rfl)) (by kernel_rfl) (by kernel_rfl) (by kernel_rfl) (by rfl) ?h20_745 ?r20_745; (case h20_745 => (intro wS hSw; (try dsimp only at hSw); go_simp; (first | done | (with_reducible rfl)))); (try simp only [Act.put, List.setIfInBounds_toArray, List.set_cons_zero, List.set_cons_succ])));
                              (first | (refine tk_skip (i := 21) (by (simp only [List.getElem?_toArray, List.getElem?_cons_succ, List.getElem?_cons_zero]; rfl)) (by kernel_rfl) (by kernel_rfl) (by kernel_rfl) (by rfl) ?r21_748; (try simp only [Act.put, List.setIfInBounds_toArray, List.set_cons_zero, List.set_cons_succ])) | (refine tk_val (i := 21) (v := ?v21_747) (by (simp only [List.getElem?_toArray, List.getElem?_cons_succ, List.getElem?_cons_zero]; rfl)) (by kernel_rfl) (by kernel_rfl) (by kernel_rfl) (by rfl) ?h21_747 ?r21_747; (case h21_747 => (intro wS hSw; (try dsimp only at hSw); go_simp; (first | done | (with_reducible rfl)))); (try simp only [Act.put, List.setIfInBounds_toArray, List.set_cons_zero, List.set_cons_succ])));
                              (first | (refine tk_skip (i := 22) (by (simp only [List.getElem?_toArray, List.getElem?_cons_succ, List.getElem?_cons_zero]; rfl)) (by kernel_rfl) (by kernel_rfl) (by kernel_rfl) (by rfl) ?r22_750; (try simp only [Act.put, List.setIfInBounds_toArray, List.set_cons_zero, List.set_cons_succ])) | (refine tk_val (i := 22) (v := ?v22_749) (by (simp only [List.getElem?_toArray, List.getElem?_cons_succ, List.getElem?_cons_zero]; rfl)) (by kernel_rfl) (by kernel_rfl) (by kernel_rfl) (by rfl) ?h22_749 ?r22_749; (case h22_749 => (intro wS hSw; (try dsimp only at hSw); go_simp; (first | done | (with_reducible rfl)))); (try simp only [Act.put, List.setIfInBounds_toArray, List.set_cons_zero, List.set_cons_succ])));
                              (first | (refine tk_skip (i := 23) (by (simp only [List.getElem?_toArray, List.getElem?_cons_succ, List.getElem?_cons_zero]; rfl)) (by kernel_rfl) (by kernel_rfl) (by kernel_rfl) (by rfl) ?r23_752; (try simp only [Act.put, List.setIfInBounds_toArray, List.set_cons_zero, List.set_cons_succ])) | (refine tk_val (i := 23) (v := ?v23_751) (by (simp only [List.getElem?_toArray, List.getElem?_cons_succ, List.getElem?_cons_zero]; rfl)) (by kernel_rfl) (by kernel_rfl) (by kernel_rfl) (by rfl) ?h23_751 ?r23_751; (case h23_751 => (intro wS hSw; (try dsimp only at hSw); go_simp; (first | done | (with_reducible rfl)))); (try simp only [Act.put, List.setIfInBounds_toArray, List.set_cons_zero, List.set_cons_succ]))))
    refine wpD_done (by kernel_rfl) (fun w1 hS1 => ?_) _
    replace hS1 := hS1.1
    go_wp2_with fail
    go_ret
    exact ⟨ret_bool hr.out.symm, bt HW.out hS1⟩
  · have c4 : decide (P < V) = false := by simpa using h4
    have c5 : decide ((5 : Int) < (m : Int)) = true := by simp; omega
    have hr := Lib.hid (HR.out.symm.trans (dv_head (head_no (P := P) (ts := ts) (rs := rs) (fun g => by omega))))
    rw [inR_yes h1] at LI
    rw [h3] at BV
    clear h1 h3 h4 h5 hV
    refine wp_region_det (S := fun w' => Below W.heap.size W w' ∧ w'.cell? ⟨w.heap.size, 0, none⟩ = some (.int .i64 P) ∧ w'.cell? ⟨w.heap.size, 1, none⟩ = some (.slice (some p) n cap) ∧ w'.cell? ⟨w.heap.size, 2, none⟩ = some (.slice B m cap2)) (by kernel_rfl) hS0 ?_
    ((refine tk_val (i := 0) (v := ?v0_753) (by (simp only [List.getElem?_toArray, List.getElem?_cons_succ, List.getElem?_cons_zero]; rfl)) (by kernel_rfl) (by kernel_rfl) (by kernel_rfl) (by rfl) ?h0_753 ?r0_753; (case h0_753 => (intro wS hSw; (try dsimp only at hSw); go_simp; (first | done | (with_reducible rfl)))); (try simp only [Act.put, List.setIfInBounds_toArray, List.set_cons_zero, List.set_cons_succ]));
                              (refine tk_val (i := 1) (v := ?v1_755) (by (simp only [List.getElem?_toArray, List.getElem?_cons_succ, List.getElem?_cons_zero]; rfl)) (by kernel_rfl) (by kernel_rfl) (by kernel_rfl) (by rfl) ?h1_755 ?r1_755; (case h1_755 => (intro wS hSw; (try dsimp only at hSw); go_simp; (first | done | (with_reducible rfl)))); (try simp only [Act.put, List.setIfInBounds_toArray, List.set_cons_zero, List.set_cons_succ])))
    refine tk_call (i := 2) (v := .bool true) (by (simp only [List.getElem?_toArray, List.getElem?_cons_succ, List.getElem?_cons_zero]; rfl)) (by kernel_rfl) (by kernel_rfl) (by kernel_rfl) (by rfl) (f := ?f2_610) (args := ?a2_610) ?e2_610 ?h2_610 ?r2_610; (case e2_610 => (intro wS hSw; (try dsimp only at hSw); go_simp; (first | done | (apply And.intro <;> rfl) | (with_reducible rfl))))
    · exact fun w1 h1 => (LI.out w1 (bt HW.out h1.1)).mono fun e w2 ⟨he, hb⟩ => ⟨he, by rw [← hb]; exact h1⟩
    (try simp only [Act.put, List.setIfInBounds_toArray, List.set_cons_zero, List.set_cons_succ])
    ((refine tk_val (i := 3) (v := ?v3_757) (by (simp only [List.getElem?_toArray, List.getElem?_cons_succ, List.getElem?_cons_zero]; rfl)) (by kernel_rfl) (by kernel_rfl) (by kernel_rfl) (by rfl) ?h3_757 ?r3_757; (case h3_757 => (intro wS hSw; (try dsimp only at hSw); go_simp; (first | done | (with_reducible rfl)))); (try simp only [Act.put, List.setIfInBounds_toArray, List.set_cons_zero, List.set_cons_succ]));
                              (refine tk_val (i := 4) (v := ?v4_759) (by (simp only [List.getElem?_toArray, List.getElem?_cons_succ, List.getElem?_cons_zero]; rfl)) (by kernel_rfl) (by kernel_rfl) (by kernel_rfl) (by rfl) ?h4_759 ?r4_759; (case h4_759 => (intro wS hSw; (try dsimp only at hSw); go_simp; (first | done | (with_reducible rfl)))); (try simp only [Act.put, List.setIfInBounds_toArray, List.set_cons_zero, List.set_cons_succ]));
                              (refine tk_val (i := 5) (v := ?v5_761) (by (simp only [List.getElem?_toArray, List.getElem?_cons_succ, List.getElem?_cons_zero]; rfl)) (by kernel_rfl) (by kernel_rfl) (by kernel_rfl) (by rfl) ?h5_761 ?r5_761; (case h5_761 => (intro wS hSw; (try dsimp only at hSw); go_simp; (first | done | (with_reducible rfl)))); (try simp only [Act.put, List.setIfInBounds_toArray, List.set_cons_zero, List.set_cons_succ]));
                              (refine tk_val (i := 6) (v := ?v6_763) (by (simp only [List.getElem?_toArray, List.getElem?_cons_succ, List.getElem?_cons_zero]; rfl)) (by kernel_rfl) (by kernel_rfl) (by kernel_rfl) (by rfl) ?h6_763 ?r6_763; (case h6_763 => (intro wS hSw; (try dsimp only at hSw); go_simp; (first | done | (with_reducible rfl)))); (try simp only [Act.put, List.setIfInBounds_toArray, List.set_cons_zero, List.set_cons_succ])))
    refine tk_call (i := 7) (v := .bool true) (by (simp only [List.getElem?_toArray, List.getElem?_cons_succ, List.getElem?_cons_zero]; rfl)) (by kernel_rfl) (by kernel_rfl) (by kernel_rfl) (by rfl) (f := ?f7_612) (args := ?a7_612) ?e7_612 ?h7_612 ?r7_612; (case e7_612 => (intro wS hSw; (try dsimp only at hSw); go_simp; (first | done | (apply And.intro <;> rfl) | (with_reducible rfl))))
    · exact fun w1 h1 => (BV.out w1 (bt HW.out h1.1)).mono fun e w2 ⟨he, hb⟩ => ⟨he, HSB.out w1 w2 h1 hb⟩
    (try simp only [Act.put, List.setIfInBounds_toArray, List.set_cons_zero, List.set_cons_succ])
    ((refine tk_val (i := 8) (v := ?v8_765) (by (simp only [List.getElem?_toArray, List.getElem?_cons_succ, List.getElem?_cons_zero]; rfl)) (by kernel_rfl) (by kernel_rfl) (by kernel_rfl) (by rfl) ?h8_765 ?r8_765; (case h8_765 => (intro wS hSw; (try dsimp only at hSw); go_simp; (first | done | (with_reducible rfl)))); (try simp only [Act.put, List.setIfInBounds_toArray, List.set_cons_zero, List.set_cons_succ]));
                              (refine tk_val (i := 9) (v := ?v9_767) (by (simp only [List.getElem?_toArray, List.getElem?_cons_succ, List.getElem?_cons_zero]; rfl)) (by kernel_rfl) (by kernel_rfl) (by kernel_rfl) (by rfl) ?h9_767 ?r9_767; (case h9_767 => (intro wS hSw; (try dsimp only at hSw); go_simp; (first | done | (with_reducible rfl)))); (try simp only [Act.put, List.setIfInBounds_toArray, List.set_cons_zero, List.set_cons_succ]));
                              (refine tk_val (i := 10) (v := ?v10_769) (by (simp only [List.getElem?_toArray, List.getElem?_cons_succ, List.getElem?_cons_zero]; rfl)) (by kernel_rfl) (by kernel_rfl) (by kernel_rfl) (by rfl) ?h10_769 ?r10_769; (case h10_769 => (intro wS hSw; (try dsimp only at hSw); go_simp; (first | done | (with_reducible rfl)))); (try simp only [Act.put, List.setIfInBounds_toArray, List.set_cons_zero, List.set_cons_succ]));
                              (refine tk_val (i := 11) (v := ?v11_771) (by (simp only [List.getElem?_toArray, List.getElem?_cons_succ, List.getElem?_cons_zero]; rfl)) (by kernel_rfl) (by kernel_rfl) (by kernel_rfl) (by rfl) ?h11_771 ?r11_771; (case h11_771 => (intro wS hSw; (try dsimp only at hSw); go_simp; (first | done | (with_reducible rfl)))); (try simp only [Act.put, List.setIfInBounds_toArray, List.set_cons_zero, List.set_cons_succ]));
                              (refine tk_val (i := 12) (v := ?v12_773) (by (simp only [List.getElem?_toArray, List.getElem?_cons_succ, List.getElem?_cons_zero]; rfl)) (by kernel_rfl) (by kernel_rfl) (by kernel_rfl) (by rfl) ?h12_773 ?r12_773; (case h12_773 => (intro wS hSw; (try dsimp only at hSw); go_simp; (first | done | (with_reducible rfl)))); (try simp only [Act.put, List.setIfInBounds_toArray, List.set_cons_zero, List.set_cons_succ])))
    refine tk_call (i := 13) (v := .int .i64 V) (by (simp only [List.getElem?_toArray, List.getElem?_cons_succ, List.getElem?_cons_zero]; rfl)) (by kernel_rfl) (by kernel_rfl) (by kernel_rfl) (by rfl) (f := ?f13_614) (args := ?a13_614) ?e13_614 ?h13_614 ?r13_614; (case e13_614 => (intro wS hSw; (try dsimp only at hSw); go_simp; (first | done | (apply And.intro <;> rfl) | (with_reducible rfl))))
    · exact fun w1 h1 => (BM.out w1 (bt HW.out h1.1)).mono fun e w2 ⟨he, hb⟩ => ⟨he, HSB.out w1 w2 h1 hb⟩
    (try simp only [Act.put, List.setIfInBounds_toArray, List.set_cons_zero, List.set_cons_succ])
    ((refine tk_val (i := 14) (v := ?v14_775) (by (simp only [List.getElem?_toArray, List.getElem?_cons_succ, List.getElem?_cons_zero]; rfl)) (by kernel_rfl) (by kernel_rfl) (by kernel_rfl) (by rfl) ?h14_775 ?r14_775; (case h14_775 => (intro wS hSw; (try dsimp only at hSw); go_simp; (first | done | (with_reducible rfl)))); (try simp only [Act.put, List.setIfInBounds_toArray, List.set_cons_zero, List.set_cons_succ]));
                              (refine tk_val (i := 15) (v := ?v15_777) (by (simp only [List.getElem?_toArray, List.getElem?_cons_succ, List.getElem?_cons_zero]; rfl)) (by kernel_rfl) (by kernel_rfl) (by kernel_rfl) (by rfl) ?h15_777 ?r15_777; (case h15_777 => (intro wS hSw; (try dsimp only at hSw); go_simp; (first | done | (with_reducible rfl)))); (try simp only [Act.put, List.setIfInBounds_toArray, List.set_cons_zero, List.set_cons_succ]));
                              (refine tk_val (i := 16) (v := ?v16_779) (by (simp only [List.getElem?_toArray, List.getElem?_cons_succ, List.getElem?_cons_zero]; rfl)) (by kernel_rfl) (by kernel_rfl) (by kernel_rfl) (by rfl) ?h16_779 ?r16_779; (case h16_779 => (intro wS hSw; (try dsimp only at hSw); go_simp; (first | done | (with_reducible rfl)))); (try simp only [Act.put, List.setIfInBounds_toArray, List.set_cons_zero, List.set_cons_succ]));
                              (refine tk_val (i := 17) (v := ?v17_781) (by (simp only [List.getElem?_toArray, List.getElem?_cons_succ, List.getElem?_cons_zero]; rfl)) (by kernel_rfl) (by kernel_rfl) (by kernel_rfl) (by rfl) ?h17_781 ?r17_781; (case h17_781 => (intro wS hSw; (try dsimp only at hSw); go_simp; (first | done | (with_reducible rfl)))); (try simp only [Act.put, List.setIfInBounds_toArray, List.set_cons_zero, List.set_cons_succ]));
                              (refine tk_val (i := 18) (v := ?v18_783) (by (simp only [List.getElem?_toArray, List.getElem?_cons_succ, List.getElem?_cons_zero]; rfl)) (by kernel_rfl) (by kernel_rfl) (by kernel_rfl) (by rfl) ?h18_783 ?r18_783; (case h18_783 => (intro wS hSw; (try dsimp only at hSw); go_simp; (first | done | (with_reducible rfl)))); (try simp only [Act.put, List.setIfInBounds_toArray, List.set_cons_zero, List.set_cons_succ]));
                              (refine tk_val (i := 19) (v := ?v19_785) (by (simp only [List.getElem?_toArray, List.getElem?_cons_succ, List.getElem?_cons_zero]; rfl)) (by kernel_rfl) (by kernel_rfl) (by kernel_rfl) (by rfl) ?h19_785 ?r19_785; (case h19_785 => (intro wS hSw; (try dsimp only at hSw); go_simp; (first | done | (with_reducible rfl)))); (try simp only [Act.put, List.setIfInBounds_toArray, List.set_cons_zero, List.set_cons_succ]));
                              (refine tk_val (i := 20) (v := ?v20_787) (by (simp only [List.getElem?_toArray, List.getElem?_cons_succ, List.getElem?_cons_zero]; rfl)) (by kernel_rfl) (by kernel_rfl) (by kernel_rfl) (by rfl) ?h20_787 ?r20_787; (case h20_787 => (intro wS hSw; (try dsimp only at hSw); go_simp; (first | done | (with_reducible rfl)))); (try simp only [Act.put, List.setIfInBounds_toArray, List.set_cons_zero, List.set_cons_succ]));
                              (refine tk_val (i := 21) (v := ?v21_789) (by (simp only [List.getElem?_toArray, List.getElem?_cons_succ, List.getElem?_cons_zero]; rfl)) (by kernel_rfl) (by kernel_rfl) (by kernel_rfl) (by rfl) ?h21_789 ?r21_789; (case h21_789 => (intro wS hSw; (try dsimp only at hSw); go_simp; (first | done | (with_reducible rfl)))); (try simp only [Act.put, List.setIfInBounds_toArray, List.set_cons_zero, List.set_cons_succ]));
                              (refine tk_val (i := 22) (v := ?v22_791) (by (simp only [List.getElem?_toArray, List.getElem?_cons_succ, List.getElem?_cons_zero]; rfl)) (by kernel_rfl) (by kernel_rfl) (by kernel_rfl) (by rfl) ?h22_791 ?r22_791; (case h22_791 => (intro wS hSw; (try dsimp only at hSw); go_simp; (first | done | (with_reducible rfl)))); (try simp only [Act.put, List.setIfInBounds_toArray, List.set_cons_zero, List.set_cons_succ]));
                              (refine tk_val (i := 23) (v := ?v23_793) (by (simp only [List.getElem?_toArray, List.getElem?_cons_succ, List.getElem?_cons_zero]; rfl)) (by kernel_rfl) (by kernel_rfl) (by kernel_rfl) (by rfl) ?h23_793 ?r23_793; (case h23_793 => (intro wS hSw; (try dsimp only at hSw); go_simp; (first | done | (with_reducible rfl)))); (try simp only [Act.put, List.setIfInBounds_toArray, List.set_cons_zero, List.set_cons_succ])))
    refine wpD_done (by kernel_rfl) (fun w1 hS1 => ?_) _
    replace hS1 := hS1.1
    go_wp2_with fail
    go_ret
    exact ⟨ret_bool hr.out.symm, bt HW.out hS1⟩
  · have c4 : decide (P < V) = false := by simpa using h4
    have c5 : decide ((5 : Int) < (m : Int)) = false := by simp; omega
    have hd := Lib.hid (head_yes (P := P) (ts := ts) (rs := rs) ⟨by omega, by omega, h3, by omega, by omega⟩)
    have hn7 : n ≤ 7 := by rw [← hl]; exact ((bsV_iff0 ts).1 h3).1
    rw [inR_yes h1] at LI
    rw [h3] at BV
    clear h1 h3 h4 h5 hV
    refine wp_region_det (S := fun w' => Below W.heap.size W w' ∧ w'.cell? ⟨w.heap.size, 0, none⟩ = some (.int .i64 P) ∧ w'.cell? ⟨w.heap.size, 1, none⟩ = some (.slice (some p) n cap) ∧ w'.cell? ⟨w.heap.size, 2, none⟩ = some (.slice B m cap2)) (by kernel_rfl) hS0 ?_
    ((refine tk_val (i := 0) (v := ?v0_795) (by (simp only [List.getElem?_toArray, List.getElem?_cons_succ, List.getElem?_cons_zero]; rfl)) (by kernel_rfl) (by kernel_rfl) (by kernel_rfl) (by rfl) ?h0_795 ?r0_795; (case h0_795 => (intro wS hSw; (try dsimp only at hSw); go_simp; (first | done | (with_reducible rfl)))); (try simp only [Act.put, List.setIfInBounds_toArray, List.set_cons_zero, List.set_cons_succ]));
                              (refine tk_val (i := 1) (v := ?v1_797) (by (simp only [List.getElem?_toArray, List.getElem?_cons_succ, List.getElem?_cons_zero]; rfl)) (by kernel_rfl) (by kernel_rfl) (by kernel_rfl) (by rfl) ?h1_797 ?r1_797; (case h1_797 => (intro wS hSw; (try dsimp only at hSw); go_simp; (first | done | (with_reducible rfl)))); (try simp only [Act.put, List.setIfInBounds_toArray, List.set_cons_zero, List.set_cons_succ])))
    refine tk_call (i := 2) (v := .bool true) (by (simp only [List.getElem?_toArray, List.getElem?_cons_succ, List.getElem?_cons_zero]; rfl)) (by kernel_rfl) (by kernel_rfl) (by kernel_rfl) (by rfl) (f := ?f2_616) (args := ?a2_616) ?e2_616 ?h2_616 ?r2_616; (case e2_616 => (intro wS hSw; (try dsimp only at hSw); go_simp; (first | done | (apply And.intro <;> rfl) | (with_reducible rfl))))
    · exact fun w1 h1 => (LI.out w1 (bt HW.out h1.1)).mono fun e w2 ⟨he, hb⟩ => ⟨he, by rw [← hb]; exact h1⟩
    (try simp only [Act.put, List.setIfInBounds_toArray, List.set_cons_zero, List.set_cons_succ])
    ((refine tk_val (i := 3) (v := ?v3_799) (by (simp only [List.getElem?_toArray, List.getElem?_cons_succ, List.getElem?_cons_zero]; rfl)) (by kernel_rfl) (by kernel_rfl) (by kernel_rfl) (by rfl) ?h3_799 ?r3_799; (case h3_799 => (intro wS hSw; (try dsimp only at hSw); go_simp; (first | done | (with_reducible rfl)))); (try simp only [Act.put, List.setIfInBounds_toArray, List.set_cons_zero, List.set_cons_succ]));
                              (refine tk_val (i := 4) (v := ?v4_801) (by (simp only [List.getElem?_toArray, List.getElem?_cons_succ, List.getElem?_cons_zero]; rfl)) (by kernel_rfl) (by kernel_rfl) (by kernel_rfl) (by rfl) ?h4_801 ?r4_801; (case h4_801 => (intro wS hSw; (try dsimp only at hSw); go_simp; (first | done | (with_reducible rfl)))); (try simp only [Act.put, List.setIfInBounds_toArray, List.set_cons_zero, List.set_cons_succ]));
                              (refine tk_val (i := 5) (v := ?v5_803) (by (simp only [List.getElem?_toArray, List.getElem?_cons_succ, List.getElem?_cons_zero]; rfl)) (by kernel_rfl) (by kernel_rfl) (by kernel_rfl) (by rfl) ?h5_803 ?r5_803; (case h5_803 => (intro wS hSw; (try dsimp only at hSw); go_simp; (first | done | (with_reducible rfl)))); (try simp only [Act.put, List.setIfInBounds_toArray, List.set_cons_zero, List.set_cons_succ]));
                              (refine tk_val (i := 6) (v := ?v6_805) (by (simp only [List.getElem?_toArray, List.getElem?_cons_succ, List.getElem?_cons_zero]; rfl)) (by kernel_rfl) (by kernel_rfl) (by kernel_rfl) (by rfl) ?h6_805 ?r6_805; (case h6_805 => (intro wS hSw; (try dsimp only at hSw); go_simp; (first | done | (with_reducible rfl)))); (try simp only [Act.put, List.setIfInBounds_toArray, List.set_cons_zero, List.set_cons_succ])))
    refine tk_call (i := 7) (v := .bool true) (by (simp only [List.getElem?_toArray, List.getElem?_cons_succ, List.getElem?_cons_zero]; rfl)) (by kernel_rfl) (by kernel_rfl) (by kernel_rfl) (by rfl) (f := ?f7_618) (args := ?a7_618) ?e7_618 ?h7_618 ?r7_618; (case e7_618 => (intro wS hSw; (try dsimp only at hSw); go_simp; (first | done | (apply And.intro <;> rfl) | (with_reducible rfl))))
    · exact fun w1 h1 => (BV.out w1 (bt HW.out h1.1)).mono fun e w2 ⟨he, hb⟩ => ⟨he, HSB.out w1 w2 h1 hb⟩
    (try simp only [Act.put, List.setIfInBounds_toArray, List.set_cons_zero, List.set_cons_succ])
    ((refine tk_val (i := 8) (v := ?v8_807) (by (simp only [List.getElem?_toArray, List.getElem?_cons_succ, List.getElem?_cons_zero]; rfl)) (by kernel_rfl) (by kernel_rfl) (by kernel_rfl) (by rfl) ?h8_807 ?r8_807; (case h8_807 => (intro wS hSw; (try dsimp only at hSw); go_simp; (first | done | (with_reducible rfl)))); (try simp only [Act.put, List.setIfInBounds_toArray, List.set_cons_zero, List.set_cons_succ]));
                              (refine tk_val (i := 9) (v := ?v9_809) (by (simp only [List.getElem?_toArray, List.getElem?_cons_succ, List.getElem?_cons_zero]; rfl)) (by kernel_rfl) (by kernel_rfl) (by kernel_rfl) (by rfl) ?h9_809 ?r9_809; (case h9_809 => (intro wS hSw; (try dsimp only at hSw); go_simp; (first | done | (with_reducible rfl)))); (try simp only [Act.put, List.setIfInBounds_toArray, List.set_cons_zero, List.set_cons_succ]));
                              (refine tk_val (i := 10) (v := ?v10_811) (by (simp only [List.getElem?_toArray, List.getElem?_cons_succ, List.getElem?_cons_zero]; rfl)) (by kernel_rfl) (by kernel_rfl) (by kernel_rfl) (by rfl) ?h10_811 ?r10_811; (case h10_811 => (intro wS hSw; (try dsimp only at hSw); go_simp; (first | done | (with_reducible rfl)))); (try simp only [Act.put, List.setIfInBounds_toArray, List.set_cons_zero, List.set_cons_succ]));
                              (refine tk_val (i := 11) (v := ?v11_813) (by (simp only [List.getElem?_toArray, List.getElem?_cons_succ, List.getElem?_cons_zero]; rfl)) (by kernel_rfl) (by kernel_rfl) (by kernel_rfl) (by rfl) ?h11_813 ?r11_813; (case h11_813 => (intro wS hSw; (try dsimp only at hSw); go_simp; (first | done | (with_reducible rfl)))); (try simp only [Act.put, List.setIfInBounds_toArray, List.set_cons_zero, List.set_cons_succ]));
                              (refine tk_val (i := 12) (v := ?v12_815) (by (simp only [List.getElem?_toArray, List.getElem?_cons_succ, List.getElem?_cons_zero]; rfl)) (by kernel_rfl) (by kernel_rfl) (by kernel_rfl) (by rfl) ?h12_815 ?r12_815; (case h12_815 => (intro wS hSw; (try dsimp only at hSw); go_simp; (first | done | (with_reducible rfl)))); (try simp only [Act.put, List.setIfInBounds_toArray, List.set_cons_zero, List.set_cons_succ])))
    refine tk_call (i := 13) (v := .int .i64 V) (by (simp only [List.getElem?_toArray, List.getElem?_cons_succ, List.getElem?_cons_zero]; rfl)) (by kernel_rfl) (by kernel_rfl) (by kernel_rfl) (by rfl) (f := ?f13_620) (args := ?a13_620) ?e13_620 ?h13_620 ?r13_620; (case e13_620 => (intro wS hSw; (try dsimp only at hSw); go_simp; (first | done | (apply And.intro <;> rfl) | (with_reducible rfl))))
    · exact fun w1 h1 => (BM.out w1 (bt HW.out h1.1)).mono fun e w2 ⟨he, hb⟩ => ⟨he, HSB.out w1 w2 h1 hb⟩
    (try simp only [Act.put, List.setIfInBounds_toArray, List.set_cons_zero, List.set_cons_succ])
    ((refine tk_val (i := 14) (v := ?v14_817) (by (simp only [List.getElem?_toArray, List.getElem?_cons_succ, List.getElem?_cons_zero]; rfl)) (by kernel_rfl) (by kernel_rfl) (by kernel_rfl) (by rfl) ?h14_817 ?r14_817; (case h14_817 => (intro wS hSw; (try dsimp only at hSw); go_simp; (first | done | (with_reducible rfl)))); (try simp only [Act.put, List.setIfInBounds_toArray, List.set_cons_zero, List.set_cons_succ]));
                              (refine tk_val (i := 15) (v := ?v15_819) (by (simp only [List.getElem?_toArray, List.getElem?_cons_succ, List.getElem?_cons_zero]; rfl)) (by kernel_rfl) (by kernel_rfl) (by kernel_rfl) (by rfl) ?h15_819 ?r15_819; (case h15_819 => (intro wS hSw; (try dsimp only at hSw); go_simp; (first | done | (with_reducible rfl)))); (try simp only [Act.put, List.setIfInBounds_toArray, List.set_cons_zero, List.set_cons_succ]));
                              (refine tk_val (i := 16) (v := ?v16_821) (by (simp only [List.getElem?_toArray, List.getElem?_cons_succ, List.getElem?_cons_zero]; rfl)) (by kernel_rfl) (by kernel_rfl) (by kernel_rfl) (by rfl) ?h16_821 ?r16_821; (case h16_821 => (intro wS hSw; (try dsimp only at hSw); go_simp; (first | done | (with_reducible rfl)))); (try simp only [Act.put, List.setIfInBounds_toArray, List.set_cons_zero, List.set_cons_succ]));
                              (refine tk_val (i := 17) (v := ?v17_823) (by (simp only [List.getElem?_toArray, List.getElem?_cons_succ, List.getElem?_cons_zero]; rfl)) (by kernel_rfl) (by kernel_rfl) (by kernel_rfl) (by rfl) ?h17_823 ?r17_823; (case h17_823 => (intro wS hSw; (try dsimp only at hSw); go_simp; (first | done | (with_reducible rfl)))); (try simp only [Act.put, List.setIfInBounds_toArray, List.set_cons_zero, List.set_cons_succ]));
                              (refine tk_val (i := 18) (v := ?v18_825) (by (simp only [List.getElem?_toArray, List.getElem?_cons_succ, List.getElem?_cons_zero]; rfl)) (by kernel_rfl) (by kernel_rfl) (by kernel_rfl) (by rfl) ?h18_825 ?r18_825; (case h18_825 => (intro wS hSw; (try dsimp only at hSw); go_simp; (first | done | (with_reducible rfl)))); (try simp only [Act.put, List.setIfInBounds_toArray, List.set_cons_zero, List.set_cons_succ]));
                              (refine tk_val (i := 19) (v := ?v19_827) (by (simp only [List.getElem?_toArray, List.getElem?_cons_succ, List.getElem?_cons_zero]; rfl)) (by kernel_rfl) (by kernel_rfl) (by kernel_rfl) (by rfl) ?h19_827 ?r19_827; (case h19_827 => (intro wS hSw; (try dsimp only at hSw); go_simp; (first | done | (with_reducible rfl)))); (try simp only [Act.put, List.setIfInBounds_toArray, List.set_cons_zero, List.set_cons_succ]));
                              (refine tk_val (i := 20) (v := ?v20_829) (by (simp only [List.getElem?_toArray, List.getElem?_cons_succ, List.getElem?_cons_zero]; rfl)) (by kernel_rfl) (by kernel_rfl) (by kernel_rfl) (by rfl) ?h20_829 ?r20_829; (case h20_829 => (intro wS hSw; (try dsimp only at hSw); go_simp; (first | done | (with_reducible rfl)))); (try simp only [Act.put, List.setIfInBounds_toArray, List.set_cons_zero, List.set_cons_succ]));
                              (refine tk_val (i := 21) (v := ?v21_831) (by (simp only [List.getElem?_toArray, List.getElem?_cons_succ, List.getElem?_cons_zero]; rfl)) (by kernel_rfl) (by kernel_rfl) (by kernel_rfl) (by rfl) ?h21_831 ?r21_831; (case h21_831 => (intro wS hSw; (try dsimp only at hSw); go_simp; (first | done | (with_reducible rfl)))); (try simp only [Act.put, List.setIfInBounds_toArray, List.set_cons_zero, List.set_cons_succ]));
                              (refine tk_val (i := 22) (v := ?v22_833) (by (simp only [List.getElem?_toArray, List.getElem?_cons_succ, List.getElem?_cons_zero]; rfl)) (by kernel_rfl) (by kernel_rfl) (by kernel_rfl) (by rfl) ?h22_833 ?r22_833; (case h22_833 => (intro wS hSw; (try dsimp only at hSw); go_simp; (first | done | (with_reducible rfl)))); (try simp only [Act.put, List.setIfInBounds_toArray, List.set_cons_zero, List.set_cons_succ]));
                              (refine tk_val (i := 23) (v := ?v23_835) (by (simp only [List.getElem?_toArray, List.getElem?_cons_succ, List.getElem?_cons_zero]; rfl)) (by kernel_rfl) (by kernel_rfl) (by kernel_rfl) (by rfl) ?h23_835 ?r23_835; (case h23_835 => (intro wS hSw; (try dsimp only at hSw); go_simp; (first | done | (with_reducible rfl)))); (try simp only [Act.put, List.setIfInBounds_toArray, List.set_cons_zero, List.set_cons_succ])))
    refine wpD_done (by kernel_rfl) (fun w1 hS1 => ?_) _
    clear BV BM LI c5 hS0
    have HS1 := Lib.hid (show DkS W w.heap.size P (some p) B n cap m cap2 w1 from hS1)
    clear hS1
    go_wp2
    go_loopw [3] (fun i wr => ∃ k : Nat, 1 ≤ k ∧ (k ≤ n ∨ k = 1) ∧ i = .int .i64 k ∧ ascD ts k ∧ DkS W w.heap.size P (some p) B n cap m cap2 wr) (fun i _ => n + 1 - (intOf i).toNat)
    case atStart => exact ⟨1, by omega, .inr rfl, rfl, asc_one ts 1 (by omega), HS1.out⟩
    case round =>
      clear HS1
      obtain ⟨k, hk1, hk, rfl, ha, hS⟩ := hrel
      have Ha := Lib.hid ha
      have HS := Lib.hid hS
      have j1 := hS.2.2.1
      have j2 := hS.2.2.2
      clear ha hS
      by_cases hlt : k < n
      · obtain ⟨j, hj⟩ : ∃ j, k = j + 1 := ⟨k - 1, by omega⟩
        obtain ⟨b, off, eb, hbl, hc⟩ := (HA.out.below (bt HW.out HS.out.1)).2 (by omega)
        obtain rfl := Option.some.inj eb
        obtain ⟨r0, _, _, _⟩ := hc k hlt
        obtain ⟨s0, _, _, _⟩ := hc j (by omega)
        have e1 : IntKind.i64.wrap ((k : Int) - 1) = (j : Int) := by rw [show (k : Int) - 1 = (j : Int) by omega]; exact IntWalk.i64_in _ (by omega)
        have i1 : (0 : Int) ≤ (k : Int) := by omega
        have i2 : (k : Int) < (n : Int) := by omega
        have i3 : (0 : Int) ≤ (j : Int) := by omega
        have i4 : (j : Int) < (n : Int) := by omega
        by_cases hlo : (ts.getD k q0).a ≤ (ts.getD j q0).a
        · have hr := Lib.hid (HR.out.symm.trans (dv_asc (P := P) (ts := ts) (rs := rs) (i := j) (by omega) (by rw [← hj]; omega)))
          have c1 : decide ((ts.getD k q0).a ≤ (ts.getD j q0).a) = true := by simpa using hlo
          generalize (ts.getD k q0).a = x at *
          generalize (ts.getD j q0).a = y at *
          clear hlo hj hc
          go_wp2
          go_quiet (fail)
          go_wp2
          go_ret
          exact ⟨ret_bool hr.out.symm, bt HW.out (bdN HS.out.1 _)⟩
        · have HG := Lib.hid (show ascD ts (k + 1) from asc_next Ha.out (by rw [show k - 1 = j by omega]; omega))
          have c1 : decide ((ts.getD k q0).a ≤ (ts.getD j q0).a) = false := by simpa using hlo
          generalize (ts.getD k q0).a = x at *
          generalize (ts.getD j q0).a = y at *
          clear hlo hj hc
          go_wp2
          go_quiet (fail)
          go_wp2
          go_roundw
          case rel => exact ⟨k + 1, by omega, by omega, by go_num, HG.out, HS.out.below lW (bdN (Below.refl _ _) _)⟩
          case measure => simp [intOf]; omega
      · have hasc := Lib.hid (show ascD ts ts.length by rw [hl]; rcases hk with g | g; (rw [show n = k by omega]; exact Ha.out); (exact asc_one ts n (by omega)))
        clear Ha hk1 hk
        generalize wr = w2 at *
        go_wp2
        go_loopw [4] (fun i wx => ∃ t : Nat, t ≤ m ∧ i = .int .i64 t ∧ (∀ j, j < t → rowOkD P ts rs j) ∧ DkS W w.heap.size P (some p) B n cap m cap2 wx) (fun i _ => m - (intOf i).toNat)
        case atStart => exact ⟨0, by omega, rfl, fun j hj => absurd hj (by omega), HS.out⟩
        case round =>
          clear HS j1 j2
          obtain ⟨t, ht, rfl, ho, hS⟩ := hrel
          have Ho := Lib.hid ho
          have HS := Lib.hid hS
          have j1 := hS.2.2.1
          have j2 := hS.2.2.2
          clear ho hS
          by_cases htm : t < m
          · obtain ⟨b, off, rfl, hbl, hc⟩ := (HB.out.below (bt HW.out HS.out.1)).2 (by omega)
            obtain ⟨r0, r1, r2, r3⟩ := hc t htm
            have hok := show rowOkD P ts rs t = (bv (rs.getD t q0).a (rs.getD t q0).b (rs.getD t q0).c (rs.getD t q0).d = true ∧ fnd rs (rs.getD t q0).a t = -1 ∧ fnd ts (rs.getD t q0).a ts.length = -1 ∧ ctV P ts (rs.getD t q0) = false) from rfl
            have hfl := fnd_lt rs t (by omega)
            rw [hl2] at hfl
            generalize rs.getD t q0 = q at *
            have i1 : (0 : Int) ≤ (t : Int) := by omega
            have i2 : (t : Int) < (m : Int) := by omega
            have hb1 := fnd_bd rs q.a m
            have hb2 := fnd_bd ts q.a n
            have KV := Lib.hid (fun w4 (_ : Below w.heap.size w w4) => BookValid_s q.a q.b q.c q.d w4)
            have K1 := Lib.hid (fun w4 (hb : Below w.heap.size w w4) => l6Find_any (some ⟨b, off, none⟩) m cap2 rs q.a w4 (HB.out.below hb) (by omega))
            have K2 := Lib.hid (fun w4 (hb : Below w.heap.size w w4) => l6Find_any (some p) n cap ts q.a w4 (HA.out.below hb) (by omega))
            have K3 := Lib.hid (fun w4 (hb : Below w.heap.size w w4) => l6Fits_s P (some ⟨b, off, none⟩) p n cap m cap2 ts q.a q.b q.c q.d w4 (HA.out.below hb) (by omega))
            have eq4 : (⟨q.a, q.b, q.c, q.d⟩ : Quad) = q := rfl
            rw [eq4] at K3
            rw [hl] at hok
            clear eq4 hc
            generalize bv q.a q.b q.c q.d = v at *
            generalize fnd rs q.a m = f1 at *
            generalize fnd ts q.a n = f2 at *
            generalize ctV P ts q = ct at *
            generalize fnd rs q.a t = f0 at *
            go_upto_region 12 with fail
            have hD0 := HS.out.book lW q 46
            have hBK0 : ∀ w4, Below (wr.alloc (.cells #[.int .i64 q.a, .int .i64 q.b, .int .i64 q.c, .int .i64 q.d] 46)).heap.size (wr.alloc (.cells #[.int .i64 q.a, .int .i64 q.b, .int .i64 q.c, .int .i64 q.d] 46)) w4 → Below wr.heap.size wr w4 := fun w4 hb => ((Below.refl wr.heap.size wr).alloc (Nat.le_refl _) _).trans (hb.mono (by simp))
            have HBX := Lib.hid hBK0
            have hg3 : wr.heap.size < (wr.alloc (.cells #[.int .i64 q.a, .int .i64 q.b, .int .i64 q.c, .int .i64 q.d] 46)).heap.size := by simp
            have hl1 : w.heap.size < (wr.alloc (.cells #[.int .i64 q.a, .int .i64 q.b, .int .i64 q.c, .int .i64 q.d] 46)).heap.size := Nat.lt_of_lt_of_le lW (Nat.le_trans HS.out.1.size (by simp))
            generalize (wr.alloc (.cells #[.int .i64 q.a, .int .i64 q.b, .int .i64 q.c, .int .i64 q.d] 46)) = W3 at *
            have HBK := Lib.hid (fun w4 (hb : Below W3.heap.size W3 w4) => bt (bt HW.out HS.out.1) (HBX.out w4 hb))
            generalize hgq : wr.heap.size = g3 at hD0 hg3 ⊢
            have hD : DbS W3 w.heap.size P (some p) (some ⟨b, off, none⟩) n cap m cap2 g3 q W3 := ⟨Below.refl _ _, hD0.2⟩
            have HD := Lib.hid hD
            obtain ⟨_, x1, x2, x3, x4, x5, x6, x7⟩ := hD
            clear hD0 hBK0 r0 r1 r2 r3 j1 j2 hgq
            by_cases hv : v = true
            · subst hv
              by_cases hf1 : f1 < (t : Int)
              · have hr := Lib.hid (HR.out.symm.trans (dv_row (P := P) (ts := ts) (rs := rs) (j := t) (by omega) (by rw [hok]; rintro ⟨_, g, _⟩; exact hfl.1 hf1 g)))
                have d1 : decide (f1 < (t : Int)) = true := by simpa using hf1
                clear hok hf1 hb1 hb2 hfl
                go_wp2_with fail
                refine (KV.out _ (HBK.out _ HD.out.1)).mono ?_
                rintro e w4 ⟨rfl, hb⟩
                replace HD := Lib.hid (HD.out.below hl1 hg3 hb)
                clear x1 x2 x3 x4 x5 x6 x7 hb
                obtain ⟨_, x1, x2, x3, x4, x5, x6, x7⟩ := HD.out
                go_wp2_with fail
                refine (K1.out _ (HBK.out _ HD.out.1)).mono ?_
                rintro e w5 ⟨rfl, hb⟩
                replace HD := Lib.hid (HD.out.below hl1 hg3 hb)
                clear x1 x2 x3 x4 x5 x6 x7 hb
                obtain ⟨_, x1, x2, x3, x4, x5, x6, x7⟩ := HD.out
                go_wp2
                go_ret
                exact ⟨ret_bool hr.out.symm, HBK.out _ HD.out.1⟩
              · have d1 : decide (f1 < (t : Int)) = false := by simpa using hf1
                have hf0 : f0 = -1 := by rcases Decidable.em (f0 = -1) with g | g; exact g; exact absurd (hfl.2 g) hf1
                by_cases hf2 : 0 ≤ f2
                · have hr := Lib.hid (HR.out.symm.trans (dv_row (P := P) (ts := ts) (rs := rs) (j := t) (by omega) (by rw [hok]; rintro ⟨_, _, g, _⟩; omega)))
                  have d2 : decide (0 ≤ f2) = true := by simpa using hf2
                  clear hok hf1 hf2 hb1 hb2 hfl hf0
                  go_wp2_with fail
                  refine (KV.out _ (HBK.out _ HD.out.1)).mono ?_
                  rintro e w4 ⟨rfl, hb⟩
                  replace HD := Lib.hid (HD.out.below hl1 hg3 hb)
                  clear x1 x2 x3 x4 x5 x6 x7 hb
                  obtain ⟨_, x1, x2, x3, x4, x5, x6, x7⟩ := HD.out
                  go_wp2_with fail
                  refine (K1.out _ (HBK.out _ HD.out.1)).mono ?_
                  rintro e w5 ⟨rfl, hb⟩
                  replace HD := Lib.hid (HD.out.below hl1 hg3 hb)
                  clear x1 x2 x3 x4 x5 x6 x7 hb
                  obtain ⟨_, x1, x2, x3, x4, x5, x6, x7⟩ := HD.out
                  go_wp2_with fail
                  refine (K2.out _ (HBK.out _ HD.out.1)).mono ?_
                  rintro e w6 ⟨rfl, hb⟩
                  replace HD := Lib.hid (HD.out.below hl1 hg3 hb)
                  clear x1 x2 x3 x4 x5 x6 x7 hb
                  obtain ⟨_, x1, x2, x3, x4, x5, x6, x7⟩ := HD.out
                  go_wp2
                  go_ret
                  exact ⟨ret_bool hr.out.symm, HBK.out _ HD.out.1⟩
                · have d2 : decide (0 ≤ f2) = false := by simpa using hf2
                  by_cases hct : ct = true
                  · subst hct
                    have hr := Lib.hid (HR.out.symm.trans (dv_row (P := P) (ts := ts) (rs := rs) (j := t) (by omega) (by rw [hok]; rintro ⟨_, _, _, g⟩; cases g)))
                    clear hok hf1 hf2 hb1 hb2 hfl hf0
                    go_wp2_with fail
                    refine (KV.out _ (HBK.out _ HD.out.1)).mono ?_
                    rintro e w4 ⟨rfl, hb⟩
                    replace HD := Lib.hid (HD.out.below hl1 hg3 hb)
                    clear x1 x2 x3 x4 x5 x6 x7 hb
                    obtain ⟨_, x1, x2, x3, x4, x5, x6, x7⟩ := HD.out
                    go_wp2_with fail
                    refine (K1.out _ (HBK.out _ HD.out.1)).mono ?_
                    rintro e w5 ⟨rfl, hb⟩
                    replace HD := Lib.hid (HD.out.below hl1 hg3 hb)
                    clear x1 x2 x3 x4 x5 x6 x7 hb
                    obtain ⟨_, x1, x2, x3, x4, x5, x6, x7⟩ := HD.out
                    go_wp2_with fail
                    refine (K2.out _ (HBK.out _ HD.out.1)).mono ?_
                    rintro e w6 ⟨rfl, hb⟩
                    replace HD := Lib.hid (HD.out.below hl1 hg3 hb)
                    clear x1 x2 x3 x4 x5 x6 x7 hb
                    obtain ⟨_, x1, x2, x3, x4, x5, x6, x7⟩ := HD.out
                    go_wp2_with fail
                    refine (K3.out _ (HBK.out _ HD.out.1)).mono ?_
                    rintro e w7 ⟨rfl, hb⟩
                    replace HD := Lib.hid (HD.out.below hl1 hg3 hb)
                    clear x1 x2 x3 x4 x5 x6 x7 hb
                    obtain ⟨_, x1, x2, x3, x4, x5, x6, x7⟩ := HD.out
                    go_wp2
                    go_ret
                    exact ⟨ret_bool hr.out.symm, HBK.out _ HD.out.1⟩
                  · obtain rfl : ct = false := by simpa using hct
                    have HO := Lib.hid (show rowOkD P ts rs t by rw [hok]; exact ⟨rfl, hf0, by omega, rfl⟩)
                    clear hok hf1 hf2 hb1 hb2 hct hfl hf0
                    go_wp2_with fail
                    refine (KV.out _ (HBK.out _ HD.out.1)).mono ?_
                    rintro e w4 ⟨rfl, hb⟩
                    replace HD := Lib.hid (HD.out.below hl1 hg3 hb)
                    clear x1 x2 x3 x4 x5 x6 x7 hb
                    obtain ⟨_, x1, x2, x3, x4, x5, x6, x7⟩ := HD.out
                    go_wp2_with fail
                    refine (K1.out _ (HBK.out _ HD.out.1)).mono ?_
                    rintro e w5 ⟨rfl, hb⟩
                    replace HD := Lib.hid (HD.out.below hl1 hg3 hb)
                    clear x1 x2 x3 x4 x5 x6 x7 hb
                    obtain ⟨_, x1, x2, x3, x4, x5, x6, x7⟩ := HD.out
                    go_wp2_with fail
                    refine (K2.out _ (HBK.out _ HD.out.1)).mono ?_
                    rintro e w6 ⟨rfl, hb⟩
                    replace HD := Lib.hid (HD.out.below hl1 hg3 hb)
                    clear x1 x2 x3 x4 x5 x6 x7 hb
                    obtain ⟨_, x1, x2, x3, x4, x5, x6, x7⟩ := HD.out
                    go_wp2_with fail
                    refine (K3.out _ (HBK.out _ HD.out.1)).mono ?_
                    rintro e w7 ⟨rfl, hb⟩
                    replace HD := Lib.hid (HD.out.below hl1 hg3 hb)
                    clear x1 x2 x3 x4 x5 x6 x7 hb
                    obtain ⟨_, x1, x2, x3, x4, x5, x6, x7⟩ := HD.out
                    have HY := Lib.hid (show DkS W w.heap.size P (some p) (some ⟨b, off, none⟩) n cap m cap2 w7 from ⟨HS.out.1.trans ((HBX.out w7 HD.out.1).mono HS.out.1.size), HD.out.2.1, HD.out.2.2.1, HD.out.2.2.2.1⟩)
                    go_wp2
                    go_roundw
                    case rel => exact ⟨t + 1, by omega, by go_num, (fun j hj => by rcases Nat.lt_or_ge j t with g | g; exact Ho.out j g; obtain rfl : j = t := (by omega); exact HO.out), HY.out⟩
                    case measure => simp [intOf]; omega
            · obtain rfl : v = false := by simpa using hv
              have hr := Lib.hid (HR.out.symm.trans (dv_row (P := P) (ts := ts) (rs := rs) (j := t) (by omega) (by rw [hok]; rintro ⟨g, _⟩; cases g)))
              clear hok hv hb1 hb2 hfl
              go_wp2_with fail
              refine (KV.out _ (HBK.out _ HD.out.1)).mono ?_
              rintro e w4 ⟨rfl, hb⟩
              replace HD := Lib.hid (HD.out.below hl1 hg3 hb)
              clear x1 x2 x3 x4 x5 x6 x7 hb
              obtain ⟨_, x1, x2, x3, x4, x5, x6, x7⟩ := HD.out
              go_wp2
              go_ret
              exact ⟨ret_bool hr.out.symm, HBK.out _ HD.out.1⟩
          · have hall := Lib.hid (HR.out.symm.trans (dv_yes hd.out hasc.out (fun j hj => Ho.out j (by omega))))
            go_wp2
            go_ret
            exact ⟨ret_bool hall.out.symm, bt HW.out HS.out.1⟩
end Go.Proofs.Ytoiaggjjfahabaa
