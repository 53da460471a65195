/- spec.DeskAsk: what it computes. Condition: short lists in slices that are not nil. -/
import Derived.Test.YtoiaggjjfahabaaAskW
namespace Go.Proofs.Ytoiaggjjfahabaa
open Go.RowKit
set_option linter.unusedVariables false
set_option maxRecDepth 100000 in
set_option maxHeartbeats 4000000 in
theorem DeskAsk_s (P : Int) (ga gb n m : Nat) (ts rs : List Quad) (a b c d : Int) (w : World) (hA : Books w (some ⟨ga, 0, none⟩) n ts) (hB : Books w (some ⟨gb, 0, none⟩) m rs) (hn : n ≤ 1048576) (hm : m ≤ 1048576) (K : Nat) (hK : askK P ts rs ⟨a, b, c, d⟩ = K) :
    Calls Try.prog 20 #[.agg #[.int .i64 P, .slice (some ⟨ga, 0, none⟩) n n, .slice (some ⟨gb, 0, none⟩) m m], .agg #[.int .i64 a, .int .i64 b, .int .i64 c, .int .i64 d]] w (AskE w P ts rs ⟨a, b, c, d⟩ K) := by
  obtain ⟨i0, hi, ia, ib, ic⟩ := info_parts infoBk2
  have X1 := ((Blk.new w 38 #[.int .i64 P, .slice (some ⟨ga, 0, none⟩) n n, .slice (some ⟨gb, 0, none⟩) m m]).alloc (.cells #[.int .i64 a, .int .i64 b, .int .i64 c, .int .i64 d] 46)).alloc (.cells #[.int .i64 0, .slice none 0 0, .slice none 0 0] 38)
  have X2 := (Blk.new (w.alloc (.cells #[.int .i64 P, .slice (some ⟨ga, 0, none⟩) n n, .slice (some ⟨gb, 0, none⟩) m m] 38)) 46 #[.int .i64 a, .int .i64 b, .int .i64 c, .int .i64 d]).alloc (.cells #[.int .i64 0, .slice none 0 0, .slice none 0 0] 38)
  have X3 := Blk.new ((w.alloc (.cells #[.int .i64 P, .slice (some ⟨ga, 0, none⟩) n n, .slice (some ⟨gb, 0, none⟩) m m] 38)).alloc (.cells #[.int .i64 a, .int .i64 b, .int .i64 c, .int .i64 d] 46)) 38 #[.int .i64 0, .slice none 0 0, .slice none 0 0]
  rw [show (w.alloc (.cells #[.int .i64 P, .slice (some ⟨ga, 0, none⟩) n n, .slice (some ⟨gb, 0, none⟩) m m] 38)).heap.size = w.heap.size + 1 by simp] at X2
  rw [show ((w.alloc (.cells #[.int .i64 P, .slice (some ⟨ga, 0, none⟩) n n, .slice (some ⟨gb, 0, none⟩) m m] 38)).alloc (.cells #[.int .i64 a, .int .i64 b, .int .i64 c, .int .i64 d] 46)).heap.size = w.heap.size + 1 + 1 by simp] at X3
  have hb0 : Below w.heap.size w (((w.alloc (.cells #[.int .i64 P, .slice (some ⟨ga, 0, none⟩) n n, .slice (some ⟨gb, 0, none⟩) m m] 38)).alloc (.cells #[.int .i64 a, .int .i64 b, .int .i64 c, .int .i64 d] 46)).alloc (.cells #[.int .i64 0, .slice none 0 0, .slice none 0 0] 38)) := by (repeat (first | exact Below.refl _ _ | assumption | refine Below.alloc ?_ (by first | omega | (simp; done) | (simp; omega)) _ | refine Below.drew ?_ | refine bdN ?_ _ | refine Below.setCell ?_ (by first | omega | (simp; done) | (simp; omega)) _))
  have hl := hA.1
  have hl2 := hB.1
  have DV := Lib.hid (fun w' (hb : Below w.heap.size w w') => DeskValid_s P ⟨ga, 0, none⟩ (some ⟨gb, 0, none⟩) n n m m ts rs w' (hA.below hb) (hB.below hb) hn hm)
  have CP := Lib.hid (fun w' (hb : Below w.heap.size w w') => l6Copy_s P ⟨ga, 0, none⟩ ⟨gb, 0, none⟩ n n m m ts rs w' (hA.below hb) (hB.below hb) hn hm)
  have BV := Lib.hid (fun w' (_ : Below w.heap.size w w') => BookValid_s a b c d w')
  have F1 := Lib.hid (fun w' (hb : Below w.heap.size w w') => l6Find_any (some ⟨ga, 0, none⟩) n n ts a w' (hA.below hb) (by omega))
  have F2 := Lib.hid (fun w' (hb : Below w.heap.size w w') => l6Find_any (some ⟨gb, 0, none⟩) m m rs a w' (hB.below hb) (by omega))
  have hts : dvV P ts rs = true → n ≤ 1000000 := fun h => by have := (dv_lens h).1; omega
  have CT := Lib.hid (fun (hv : dvV P ts rs = true) w' (hb : Below w.heap.size w w') => l6Fits_s P (some ⟨gb, 0, none⟩) ⟨ga, 0, none⟩ n n m m ts a b c d w' (hA.below hb) (hts hv))
  have PB := Lib.hid (fun (hn7 : n ≤ 7) (_ : Asc ts) (_ : fnd ts a n = -1) w' (hb : Below w.heap.size w w') => l6Put_s ga 0 n ts a b c d w' (hA.below hb) (by omega))
  have HL := Lib.hid hl
  have HL2 := Lib.hid hl2
  clear hA hB hl2 hts
  go_enter Try.func20, Try.ntmps20
  go_wp2_with fail
  generalize (((w.alloc (.cells #[.int .i64 P, .slice (some ⟨ga, 0, none⟩) n n, .slice (some ⟨gb, 0, none⟩) m m] 38)).alloc (.cells #[.int .i64 a, .int .i64 b, .int .i64 c, .int .i64 d] 46)).alloc (.cells #[.int .i64 0, .slice none 0 0, .slice none 0 0] 38)) = W at *
  have hS : A0 w P ga gb n m ⟨a, b, c, d⟩ W := ⟨hb0, X1, X2, X3⟩
  have HS := Lib.hid hS
  clear hS X1 X2 X3 hb0
  refine (DV.out W HS.out.1).mono ?_
  rintro e w1 ⟨rfl, hb⟩
  replace HS := Lib.hid (HS.out.below hb)
  clear hb
  have C1 := HS.out.2.1.cell
  have C2 := HS.out.2.2.1.cell
  have C3 := HS.out.2.2.2.cell
  have F3 := HS.out.2.2.2.frozen
  by_cases hdv : dvV P ts rs = false
  · have hk : K = 0 := by rw [← hK]; unfold askK; rw [if_pos hdv]
    rw [hdv]
    subst hk
    have HQ := Lib.hid (((HS.out.2.2.2.set_ 0 (.int .i64 0)).set_ 1 (.slice none 0 0)).set_ 2 (.slice none 0 0))
    clear hdv hK DV CP BV F1 F2 CT PB
    go_wp2
    have f0 := HQ.out.cell 0
    have f1 := HQ.out.cell 1
    have f2 := HQ.out.cell 2
    simp only [List.setIfInBounds_toArray, List.set_cons_zero, List.set_cons_succ, List.getElem?_toArray, List.getElem?_cons_succ, List.getElem?_cons_zero] at f0 f1 f2
    refine bodyPost_ret (v := .tuple #[.agg #[.int .i64 0, .slice none 0 0, .slice none 0 0], .int .i64 0]) (by simp [results, Try.results20, go_sem, f0, f1, f2]) rfl ?_
    refine ⟨none, 0, 0, none, 0, 0, rfl, OwnD.of_b ⟨rfl, .inl ⟨rfl, rfl⟩⟩ ⟨rfl, .inl ⟨rfl, rfl⟩⟩ ?_ (.inl rfl), by omega, by omega, ?_⟩
    · exact Nat.le_trans HS.out.1.size (by simp)
    · exact ((HS.out.1.setCell (by show w.heap.size ≤ w.heap.size + 1 + 1; omega) _).setCell (by show w.heap.size ≤ w.heap.size + 1 + 1; omega) _).setCell (by show w.heap.size ≤ w.heap.size + 1 + 1; omega) _
  · replace hdv : dvV P ts rs = true := by simpa using hdv
    have hlens := dv_lens hdv
    rw [HL.out, HL2.out] at hlens
    have HA2 := Lib.hid (dv_asc_of hdv)
    have CT2 := Lib.hid (CT.out hdv)
    have hf1b := fnd_bd ts a n
    have hK2 := hK
    unfold askK at hK2
    rw [if_neg (by rw [hdv]; simp), HL.out, HL2.out] at hK2
    rw [hdv]
    clear hdv hK CT
    have CT := CT2
    have hK := hK2
    clear CT2 hK2
    have PB2 := Lib.hid (fun (hf : fnd ts a n = -1) => PB.out hlens.1 HA2.out hf)
    clear PB
    generalize bv a b c d = v at *
    generalize fnd ts a n = f1 at *
    generalize fnd rs a m = f2 at *
    generalize ctV P ts ⟨a, b, c, d⟩ = ct at *
    have lz := HS.out.2.2.2.lt
    go_wp2_with fail
    refine (CP.out w1 HS.out.1).mono ?_
    rintro e w2 ⟨G1, c1, G2, c2, rfl, hO1, hO2, hap, hb⟩
    have hAl : Below w2.heap.size w2 (w2.alloc (.cells #[.int .i64 P, .slice G1 n c1, .slice G2 m c2] 38)) := (Below.refl _ _).alloc (Nat.le_refl _) _
    have HT : Hid (AS1 w P ga gb n m ⟨a, b, c, d⟩ ts rs w1.heap.size w2.heap.size G1 c1 G2 c2 (w2.alloc (.cells #[.int .i64 P, .slice G1 n c1, .slice G2 m c2] 38))) := (⟨(HS.out.below hb).below hAl, Blk.new w2 _ _, hO1.alloc _, hO2.alloc _⟩ : AS1 w P ga gb n m ⟨a, b, c, d⟩ ts rs w1.heap.size w2.heap.size G1 c1 G2 c2 _)
    have L1 := Lib.hid (own_lt hO1)
    have L2 := Lib.hid (own_lt hO2)
    have AP := Lib.hid hap
    have lzz := hb.size
    have lg : w2.heap.size < (w2.alloc (.cells #[.int .i64 P, .slice G1 n c1, .slice G2 m c2] 38)).heap.size := by simp
    clear C1 C2 C3 F3 HS hO1 hO2 hap hb hAl DV CP
    go_upto_region 4 with fail
    generalize (w2.alloc (.cells #[.int .i64 P, .slice G1 n c1, .slice G2 m c2] 38)) = W3 at *
    have C1 := HT.out.1.2.1.cell
    have C2 := HT.out.1.2.2.1.cell
    have C3 := HT.out.1.2.2.2.cell
    have C4 := HT.out.2.1.cell
    have F3 := HT.out.1.2.2.2.frozen
    have F4 := HT.out.2.1.frozen
    go_wp2_with fail
    cases hv : v
    · subst hv
      have hk : K = 1 := by rw [← hK]; simp
      clear hK
      refine (BV.out _ HT.out.1.1).mono ?_
      rintro e w3 ⟨rfl, hb⟩
      replace HT := Lib.hid (HT.out.below hb)
      replace lg := Nat.lt_of_lt_of_le lg hb.size
      clear hb C1 C2 C3 C4 F3 F4
      have C1 := HT.out.1.2.1.cell
      have C2 := HT.out.1.2.2.1.cell
      have C3 := HT.out.1.2.2.2.cell
      have C4 := HT.out.2.1.cell
      have F3 := HT.out.1.2.2.2.frozen
      have F4 := HT.out.2.1.frozen
      subst hk
      have HQ := Lib.hid (((HT.out.1.2.2.2.set_ 0 (.int .i64 P)).set_ 1 (.slice G1 n c1)).set_ 2 (.slice G2 m c2))
      go_wp2
      have f0 := HQ.out.cell 0
      have f1 := HQ.out.cell 1
      have f2 := HQ.out.cell 2
      simp only [List.setIfInBounds_toArray, List.set_cons_zero, List.set_cons_succ, List.getElem?_toArray, List.getElem?_cons_succ, List.getElem?_cons_zero] at f0 f1 f2
      refine bodyPost_ret (v := .tuple #[.agg #[.int .i64 P, .slice G1 n c1, .slice G2 m c2], .int .i64 0]) (by simp [results, Try.results20, go_sem, f0, f1, f2]) rfl ?_
      obtain ⟨_, _, e1, _, _, o1⟩ := own_b HT.out.2.2.1 HL.out
      cases e1
      obtain ⟨_, _, e1, _, _, o2⟩ := own_b HT.out.2.2.2 HL2.out
      cases e1
      obtain ⟨h1, h2⟩ := fin_own (t := w.heap.size + 1 + 1) (u0 := .int .i64 P) (u1 := .slice G1 n c1) (u2 := .slice G2 m c2) HT.out.1.1 (by omega) lz o1 o2 AP.out
      exact ⟨G1, n, c1, G2, m, c2, rfl, h1, by omega, by omega, h2⟩
    · subst hv
      by_cases h1 : 0 ≤ f1
      · have hk : K = 1 := by rw [← hK]; simp [h1]
        have d1 : decide (0 ≤ f1) = true := by simpa using h1
        clear hK h1
        refine (BV.out _ HT.out.1.1).mono ?_
        rintro e w3 ⟨rfl, hb⟩
        replace HT := Lib.hid (HT.out.below hb)
        replace lg := Nat.lt_of_lt_of_le lg hb.size
        clear hb C1 C2 C3 C4 F3 F4
        have C1 := HT.out.1.2.1.cell
        have C2 := HT.out.1.2.2.1.cell
        have C3 := HT.out.1.2.2.2.cell
        have C4 := HT.out.2.1.cell
        have F3 := HT.out.1.2.2.2.frozen
        have F4 := HT.out.2.1.frozen
        go_wp2_with fail
        refine (F1.out _ HT.out.1.1).mono ?_
        rintro e w4 ⟨rfl, hb⟩
        replace HT := Lib.hid (HT.out.below hb)
        replace lg := Nat.lt_of_lt_of_le lg hb.size
        clear hb C1 C2 C3 C4 F3 F4
        have C1 := HT.out.1.2.1.cell
        have C2 := HT.out.1.2.2.1.cell
        have C3 := HT.out.1.2.2.2.cell
        have C4 := HT.out.2.1.cell
        have F3 := HT.out.1.2.2.2.frozen
        have F4 := HT.out.2.1.frozen
        subst hk
        have HQ := Lib.hid (((HT.out.1.2.2.2.set_ 0 (.int .i64 P)).set_ 1 (.slice G1 n c1)).set_ 2 (.slice G2 m c2))
        go_wp2
        have f0 := HQ.out.cell 0
        have f1 := HQ.out.cell 1
        have f2 := HQ.out.cell 2
        simp only [List.setIfInBounds_toArray, List.set_cons_zero, List.set_cons_succ, List.getElem?_toArray, List.getElem?_cons_succ, List.getElem?_cons_zero] at f0 f1 f2
        refine bodyPost_ret (v := .tuple #[.agg #[.int .i64 P, .slice G1 n c1, .slice G2 m c2], .int .i64 0]) (by simp [results, Try.results20, go_sem, f0, f1, f2]) rfl ?_
        obtain ⟨_, _, e1, _, _, o1⟩ := own_b HT.out.2.2.1 HL.out
        cases e1
        obtain ⟨_, _, e1, _, _, o2⟩ := own_b HT.out.2.2.2 HL2.out
        cases e1
        obtain ⟨h1, h2⟩ := fin_own (t := w.heap.size + 1 + 1) (u0 := .int .i64 P) (u1 := .slice G1 n c1) (u2 := .slice G2 m c2) HT.out.1.1 (by omega) lz o1 o2 AP.out
        exact ⟨G1, n, c1, G2, m, c2, rfl, h1, by omega, by omega, h2⟩
      · have d1 : decide (0 ≤ f1) = false := by simpa using h1
        have hff : f1 = -1 := by omega
        have PB := PB2.out hff
        have HPB := Lib.hid PB
        clear PB PB2 hff
        by_cases h2 : 0 ≤ f2
        · have hk : K = 1 := by rw [← hK]; simp [h1, h2]
          have d2 : decide (0 ≤ f2) = true := by simpa using h2
          clear hK h1 h2
          refine (BV.out _ HT.out.1.1).mono ?_
          rintro e w3 ⟨rfl, hb⟩
          replace HT := Lib.hid (HT.out.below hb)
          replace lg := Nat.lt_of_lt_of_le lg hb.size
          clear hb C1 C2 C3 C4 F3 F4
          have C1 := HT.out.1.2.1.cell
          have C2 := HT.out.1.2.2.1.cell
          have C3 := HT.out.1.2.2.2.cell
          have C4 := HT.out.2.1.cell
          have F3 := HT.out.1.2.2.2.frozen
          have F4 := HT.out.2.1.frozen
          go_wp2_with fail
          refine (F1.out _ HT.out.1.1).mono ?_
          rintro e w4 ⟨rfl, hb⟩
          replace HT := Lib.hid (HT.out.below hb)
          replace lg := Nat.lt_of_lt_of_le lg hb.size
          clear hb C1 C2 C3 C4 F3 F4
          have C1 := HT.out.1.2.1.cell
          have C2 := HT.out.1.2.2.1.cell
          have C3 := HT.out.1.2.2.2.cell
          have C4 := HT.out.2.1.cell
          have F3 := HT.out.1.2.2.2.frozen
          have F4 := HT.out.2.1.frozen
          go_wp2_with fail
          refine (F2.out _ HT.out.1.1).mono ?_
          rintro e w5 ⟨rfl, hb⟩
          replace HT := Lib.hid (HT.out.below hb)
          replace lg := Nat.lt_of_lt_of_le lg hb.size
          clear hb C1 C2 C3 C4 F3 F4
          have C1 := HT.out.1.2.1.cell
          have C2 := HT.out.1.2.2.1.cell
          have C3 := HT.out.1.2.2.2.cell
          have C4 := HT.out.2.1.cell
          have F3 := HT.out.1.2.2.2.frozen
          have F4 := HT.out.2.1.frozen
          subst hk
          have HQ := Lib.hid (((HT.out.1.2.2.2.set_ 0 (.int .i64 P)).set_ 1 (.slice G1 n c1)).set_ 2 (.slice G2 m c2))
          go_wp2
          have f0 := HQ.out.cell 0
          have f1 := HQ.out.cell 1
          have f2 := HQ.out.cell 2
          simp only [List.setIfInBounds_toArray, List.set_cons_zero, List.set_cons_succ, List.getElem?_toArray, List.getElem?_cons_succ, List.getElem?_cons_zero] at f0 f1 f2
          refine bodyPost_ret (v := .tuple #[.agg #[.int .i64 P, .slice G1 n c1, .slice G2 m c2], .int .i64 0]) (by simp [results, Try.results20, go_sem, f0, f1, f2]) rfl ?_
          obtain ⟨_, _, e1, _, _, o1⟩ := own_b HT.out.2.2.1 HL.out
          cases e1
          obtain ⟨_, _, e1, _, _, o2⟩ := own_b HT.out.2.2.2 HL2.out
          cases e1
          obtain ⟨h1, h2⟩ := fin_own (t := w.heap.size + 1 + 1) (u0 := .int .i64 P) (u1 := .slice G1 n c1) (u2 := .slice G2 m c2) HT.out.1.1 (by omega) lz o1 o2 AP.out
          exact ⟨G1, n, c1, G2, m, c2, rfl, h1, by omega, by omega, h2⟩
        · have d2 : decide (0 ≤ f2) = false := by simpa using h2
          cases hct : ct
          · subst hct
            by_cases h5 : 5 ≤ m
            · have hk : K = 1 := by rw [← hK]; simp [h1, h2, h5]
              have d5 : ((m : Int) == 5) = true := by simp; omega
              clear hK h1 h2 h5
              refine (BV.out _ HT.out.1.1).mono ?_
              rintro e w3 ⟨rfl, hb⟩
              replace HT := Lib.hid (HT.out.below hb)
              replace lg := Nat.lt_of_lt_of_le lg hb.size
              clear hb C1 C2 C3 C4 F3 F4
              have C1 := HT.out.1.2.1.cell
              have C2 := HT.out.1.2.2.1.cell
              have C3 := HT.out.1.2.2.2.cell
              have C4 := HT.out.2.1.cell
              have F3 := HT.out.1.2.2.2.frozen
              have F4 := HT.out.2.1.frozen
              go_wp2_with fail
              refine (F1.out _ HT.out.1.1).mono ?_
              rintro e w4 ⟨rfl, hb⟩
              replace HT := Lib.hid (HT.out.below hb)
              replace lg := Nat.lt_of_lt_of_le lg hb.size
              clear hb C1 C2 C3 C4 F3 F4
              have C1 := HT.out.1.2.1.cell
              have C2 := HT.out.1.2.2.1.cell
              have C3 := HT.out.1.2.2.2.cell
              have C4 := HT.out.2.1.cell
              have F3 := HT.out.1.2.2.2.frozen
              have F4 := HT.out.2.1.frozen
              go_wp2_with fail
              refine (F2.out _ HT.out.1.1).mono ?_
              rintro e w5 ⟨rfl, hb⟩
              replace HT := Lib.hid (HT.out.below hb)
              replace lg := Nat.lt_of_lt_of_le lg hb.size
              clear hb C1 C2 C3 C4 F3 F4
              have C1 := HT.out.1.2.1.cell
              have C2 := HT.out.1.2.2.1.cell
              have C3 := HT.out.1.2.2.2.cell
              have C4 := HT.out.2.1.cell
              have F3 := HT.out.1.2.2.2.frozen
              have F4 := HT.out.2.1.frozen
              go_wp2_with fail
              refine (CT.out _ HT.out.1.1).mono ?_
              rintro e w6 ⟨rfl, hb⟩
              replace HT := Lib.hid (HT.out.below hb)
              replace lg := Nat.lt_of_lt_of_le lg hb.size
              clear hb C1 C2 C3 C4 F3 F4
              have C1 := HT.out.1.2.1.cell
              have C2 := HT.out.1.2.2.1.cell
              have C3 := HT.out.1.2.2.2.cell
              have C4 := HT.out.2.1.cell
              have F3 := HT.out.1.2.2.2.frozen
              have F4 := HT.out.2.1.frozen
              subst hk
              have HQ := Lib.hid (((HT.out.1.2.2.2.set_ 0 (.int .i64 P)).set_ 1 (.slice G1 n c1)).set_ 2 (.slice G2 m c2))
              go_wp2
              have f0 := HQ.out.cell 0
              have f1 := HQ.out.cell 1
              have f2 := HQ.out.cell 2
              simp only [List.setIfInBounds_toArray, List.set_cons_zero, List.set_cons_succ, List.getElem?_toArray, List.getElem?_cons_succ, List.getElem?_cons_zero] at f0 f1 f2
              refine bodyPost_ret (v := .tuple #[.agg #[.int .i64 P, .slice G1 n c1, .slice G2 m c2], .int .i64 0]) (by simp [results, Try.results20, go_sem, f0, f1, f2]) rfl ?_
              obtain ⟨_, _, e1, _, _, o1⟩ := own_b HT.out.2.2.1 HL.out
              cases e1
              obtain ⟨_, _, e1, _, _, o2⟩ := own_b HT.out.2.2.2 HL2.out
              cases e1
              obtain ⟨h1, h2⟩ := fin_own (t := w.heap.size + 1 + 1) (u0 := .int .i64 P) (u1 := .slice G1 n c1) (u2 := .slice G2 m c2) HT.out.1.1 (by omega) lz o1 o2 AP.out
              exact ⟨G1, n, c1, G2, m, c2, rfl, h1, by omega, by omega, h2⟩
            · have hk : K = 3 := by rw [← hK]; simp [h1, h2, h5]
              have d5 : ((m : Int) == 5) = false := by simp; omega
              clear hK h1 h2 h5
              subst hk
              refine (BV.out _ HT.out.1.1).mono ?_
              rintro e w3 ⟨rfl, hb⟩
              replace HT := Lib.hid (HT.out.below hb)
              replace lg := Nat.lt_of_lt_of_le lg hb.size
              clear hb C1 C2 C3 C4 F3 F4
              have C1 := HT.out.1.2.1.cell
              have C2 := HT.out.1.2.2.1.cell
              have C3 := HT.out.1.2.2.2.cell
              have C4 := HT.out.2.1.cell
              have F3 := HT.out.1.2.2.2.frozen
              have F4 := HT.out.2.1.frozen
              go_wp2_with fail
              refine (F1.out _ HT.out.1.1).mono ?_
              rintro e w4 ⟨rfl, hb⟩
              replace HT := Lib.hid (HT.out.below hb)
              replace lg := Nat.lt_of_lt_of_le lg hb.size
              clear hb C1 C2 C3 C4 F3 F4
              have C1 := HT.out.1.2.1.cell
              have C2 := HT.out.1.2.2.1.cell
              have C3 := HT.out.1.2.2.2.cell
              have C4 := HT.out.2.1.cell
              have F3 := HT.out.1.2.2.2.frozen
              have F4 := HT.out.2.1.frozen
              go_wp2_with fail
              refine (F2.out _ HT.out.1.1).mono ?_
              rintro e w5 ⟨rfl, hb⟩
              replace HT := Lib.hid (HT.out.below hb)
              replace lg := Nat.lt_of_lt_of_le lg hb.size
              clear hb C1 C2 C3 C4 F3 F4
              have C1 := HT.out.1.2.1.cell
              have C2 := HT.out.1.2.2.1.cell
              have C3 := HT.out.1.2.2.2.cell
              have C4 := HT.out.2.1.cell
              have F3 := HT.out.1.2.2.2.frozen
              have F4 := HT.out.2.1.frozen
              go_wp2_with fail
              refine (CT.out _ HT.out.1.1).mono ?_
              rintro e w6 ⟨rfl, hb⟩
              replace HT := Lib.hid (HT.out.below hb)
              replace lg := Nat.lt_of_lt_of_le lg hb.size
              clear hb C1 C2 C3 C4 F3 F4
              have C1 := HT.out.1.2.1.cell
              have C2 := HT.out.1.2.2.1.cell
              have C3 := HT.out.1.2.2.2.cell
              have C4 := HT.out.2.1.cell
              have F3 := HT.out.1.2.2.2.frozen
              have F4 := HT.out.2.1.frozen
              go_wp2_with (at_builtin; refine wpList_append_fresh _ rfl _ _ 26 rfl w1.heap.size 46 i0 (.agg #[.int .i64 0, .int .i64 0, .int .i64 0, .int .i64 0]) 4 32 Try.underlying26 hi ia ib ic rfl (by decide) _ _ _ rfl (HT.out.2.2.2.alloc _) ⟨w6.heap.size, 0, none⟩ 1 1 (Quad.cells ⟨a, b, c, d⟩) rfl rfl (o_cells w6 _ ⟨a, b, c, d⟩) ?c2 ?c3 ?c4 ?c5 ?_)
              case c2 => simp [Quad.cells, Value.oneCell']
              case c3 => unfold maxLen; omega
              case c4 => omega
              case c5 => exact Nat.le_trans (show w1.heap.size ≤ w6.heap.size by omega) (by simp)
              intro v' w7 hown hgrow hfr
              have hown' : w7.ownsRow w1.heap.size 46 4 v' (m + 1) ((rs ++ [(⟨a, b, c, d⟩ : Quad)]).flatMap Quad.cells) := by rw [List.flatMap_append]; simpa using hown
              obtain ⟨G3, c3, rfl, _, _, oB⟩ := own_b hown' (by rw [List.length_append, HL2.out]; rfl)
              have hfr2 : (Value.slice G3 (m + 1) c3).ownBlock = (Value.slice G2 m c2).ownBlock ∨ (Value.slice G3 (m + 1) c3).ownBlock = some (w6.heap.size + 1) := by
                rcases hfr with h | h
                · exact .inl h
                · right; rw [h]; first | done | simp
              have hnew := grow_ne (g6 := w2.heap.size) L2.out hfr2 (by omega)
              have Y3 := blk_grown (HT.out.1.2.2.2.alloc (.cells #[.int .i64 a, .int .i64 b, .int .i64 c, .int .i64 d] 46)) hgrow (row_ne L2.out (by omega))
              have Y4 := blk_grown (HT.out.2.1.alloc (.cells #[.int .i64 a, .int .i64 b, .int .i64 c, .int .i64 d] 46)) hgrow (row_ne L2.out (by omega))
              have K1 := World.ownsRow.kept (HT.out.2.2.1.alloc (.cells #[.int .i64 a, .int .i64 b, .int .i64 c, .int .i64 d] 46)) hgrow (kept_ne L1.out L2.out AP.out)
              obtain ⟨_, _, e1, _, _, oA⟩ := own_b K1 HL.out
              cases e1
              have hB7 : Below w.heap.size w w7 := (HT.out.1.1.alloc HT.out.1.1.size _).grown hgrow (Nat.le_trans HT.out.1.1.size (by simp)) (fun q hq => by have := (HT.out.2.2.2.lt q hq).1; omega)
              clear C1 C2 C3 C4 F3 F4 hown hown' hgrow hfr hfr2 K1
              have D4 := Y4.cell
              have E4 := Y4.frozen
              go_upto_region 12 with fail
              have X4 := Y4.set_ 2 (.slice G3 (m + 1) c3)
              have X3 := Y3.far (p := ⟨w2.heap.size, 2, none⟩) (by show w.heap.size + 1 + 1 ≠ w2.heap.size; omega) (.slice G3 (m + 1) c3)
              have hB8 := hB7.setCell (p := ⟨w2.heap.size, 2, none⟩) (by show w.heap.size ≤ w2.heap.size; omega) (.slice G3 (m + 1) c3)
              have oa := oA.ne (p := ⟨w2.heap.size, 2, none⟩) (fun g' e => by rcases L1.out with q | ⟨g2, q, q1, q2⟩; (rw [q] at e; cases e); (rw [q] at e; cases e; show g' ≠ w2.heap.size; omega)) (.slice G3 (m + 1) c3)
              have ob := oB.ne (p := ⟨w2.heap.size, 2, none⟩) (fun g' e => (hnew g' e).1) (.slice G3 (m + 1) c3)
              have hap : G1 = none ∨ G1 ≠ G3 := by
                rcases L1.out with q | ⟨g1, q, q1, q2⟩
                · exact .inl q
                · right; intro e
                  rcases (hnew g1 (e.symm.trans q)).2 with r | r
                  · rcases AP.out with s | s
                    · rw [q] at s; cases s
                    · exact s (q.trans r.symm)
                  · omega
              have hs8 : (w7.setCell ⟨w2.heap.size, 2, none⟩ (.slice G3 (m + 1) c3)).heap.size = w7.heap.size := by simp
              rw [← hs8] at oa ob
              simp only [List.setIfInBounds_toArray, List.set_cons_zero, List.set_cons_succ] at X4
              clear D4 E4 Y3 Y4 oA oB hnew hB7
              generalize (w7.setCell ⟨w2.heap.size, 2, none⟩ (.slice G3 (m + 1) c3)) = w8 at *
              have HQ := Lib.hid (((X3.set_ 0 (.int .i64 P)).set_ 1 (.slice G1 n c1)).set_ 2 (.slice G3 (m + 1) c3))
              have HF := Lib.hid (fin_own (t := w.heap.size + 1 + 1) (u0 := .int .i64 P) (u1 := .slice G1 n c1) (u2 := .slice G3 (m + 1) c3) hB8 (by omega) lz oa ob hap)
              clear oa ob hap hB8 hs8
              have C4 := X4.cell
              have C3 := X3.cell
              have F3 := X3.frozen
              clear X3 X4
              go_wp2
              have f0 := HQ.out.cell 0
              have f1 := HQ.out.cell 1
              have f2 := HQ.out.cell 2
              simp only [List.setIfInBounds_toArray, List.set_cons_zero, List.set_cons_succ, List.getElem?_toArray, List.getElem?_cons_succ, List.getElem?_cons_zero] at f0 f1 f2
              refine bodyPost_ret (v := .tuple #[.agg #[.int .i64 P, .slice G1 n c1, .slice G3 (m + 1) c3], .int .i64 2]) (by simp [results, Try.results20, go_sem, f0, f1, f2]) rfl ?_
              exact ⟨G1, n, c1, G3, m + 1, c3, rfl, HF.out.1, by omega, by omega, HF.out.2⟩
          · subst hct
            have hk : K = 2 := by rw [← hK]; simp [h1, h2]
            clear hK h1 h2
            subst hk
            refine (BV.out _ HT.out.1.1).mono ?_
            rintro e w3 ⟨rfl, hb⟩
            replace HT := Lib.hid (HT.out.below hb)
            replace lg := Nat.lt_of_lt_of_le lg hb.size
            clear hb C1 C2 C3 C4 F3 F4
            have C1 := HT.out.1.2.1.cell
            have C2 := HT.out.1.2.2.1.cell
            have C3 := HT.out.1.2.2.2.cell
            have C4 := HT.out.2.1.cell
            have F3 := HT.out.1.2.2.2.frozen
            have F4 := HT.out.2.1.frozen
            go_wp2_with fail
            refine (F1.out _ HT.out.1.1).mono ?_
            rintro e w4 ⟨rfl, hb⟩
            replace HT := Lib.hid (HT.out.below hb)
            replace lg := Nat.lt_of_lt_of_le lg hb.size
            clear hb C1 C2 C3 C4 F3 F4
            have C1 := HT.out.1.2.1.cell
            have C2 := HT.out.1.2.2.1.cell
            have C3 := HT.out.1.2.2.2.cell
            have C4 := HT.out.2.1.cell
            have F3 := HT.out.1.2.2.2.frozen
            have F4 := HT.out.2.1.frozen
            go_wp2_with fail
            refine (F2.out _ HT.out.1.1).mono ?_
            rintro e w5 ⟨rfl, hb⟩
            replace HT := Lib.hid (HT.out.below hb)
            replace lg := Nat.lt_of_lt_of_le lg hb.size
            clear hb C1 C2 C3 C4 F3 F4
            have C1 := HT.out.1.2.1.cell
            have C2 := HT.out.1.2.2.1.cell
            have C3 := HT.out.1.2.2.2.cell
            have C4 := HT.out.2.1.cell
            have F3 := HT.out.1.2.2.2.frozen
            have F4 := HT.out.2.1.frozen
            go_wp2_with fail
            refine (CT.out _ HT.out.1.1).mono ?_
            rintro e w6 ⟨rfl, hb⟩
            replace HT := Lib.hid (HT.out.below hb)
            replace lg := Nat.lt_of_lt_of_le lg hb.size
            clear hb C1 C2 C3 C4 F3 F4
            have C1 := HT.out.1.2.1.cell
            have C2 := HT.out.1.2.2.1.cell
            have C3 := HT.out.1.2.2.2.cell
            have C4 := HT.out.2.1.cell
            have F3 := HT.out.1.2.2.2.frozen
            have F4 := HT.out.2.1.frozen
            go_wp2_with fail
            refine (HPB.out _ HT.out.1.1).mono ?_
            rintro e w7 ⟨g, cc, rfl, hg, hR, hb⟩
            replace HT := Lib.hid (HT.out.below hb)
            clear hb C1 C2 C3 C4 F3 F4
            have C1 := HT.out.1.2.1.cell
            have C2 := HT.out.1.2.2.1.cell
            have C3 := HT.out.1.2.2.2.cell
            have C4 := HT.out.2.1.cell
            have F3 := HT.out.1.2.2.2.frozen
            have F4 := HT.out.2.1.frozen
            have HR := Lib.hid hR
            have lg7 := HT.out.2.1.lt
            clear hR
            go_upto_region 8 with fail
            have X4 := HT.out.2.1.set_ 1 (.slice (some ⟨g, 0, none⟩) (n + 1) cc)
            have X3 := HT.out.1.2.2.2.far (p := ⟨w2.heap.size, 1, none⟩) (by show w.heap.size + 1 + 1 ≠ w2.heap.size; omega) (.slice (some ⟨g, 0, none⟩) (n + 1) cc)
            have hB8 := HT.out.1.1.setCell (p := ⟨w2.heap.size, 1, none⟩) (by show w.heap.size ≤ w2.heap.size; omega) (.slice (some ⟨g, 0, none⟩) (n + 1) cc)
            obtain ⟨_, _, e1, _, _, o2⟩ := own_b HT.out.2.2.2 HL2.out
            cases e1
            have ob := o2.ne (p := ⟨w2.heap.size, 1, none⟩) (fun g' e => by rcases L2.out with q | ⟨g2, q, q1, q2⟩; (rw [q] at e; cases e); (rw [q] at e; cases e; show g' ≠ w2.heap.size; omega)) (.slice (some ⟨g, 0, none⟩) (n + 1) cc)
            have oa : OwnB (w7.setCell ⟨w2.heap.size, 1, none⟩ (.slice (some ⟨g, 0, none⟩) (n + 1) cc)) w1.heap.size w7.heap.size (some ⟨g, 0, none⟩) (n + 1) (putV ts ⟨a, b, c, d⟩) := ⟨HR.out.1, .inr ⟨g, rfl, by omega, HR.out.lt, HR.out.far (by show g ≠ w2.heap.size; omega) _⟩⟩
            have hap : (some ⟨g, 0, none⟩ : Option Addr) = none ∨ some ⟨g, 0, none⟩ ≠ G2 := .inr (fun e => by rcases L2.out with q | ⟨g2, q, q1, q2⟩; (rw [q] at e; cases e); (rw [q] at e; cases e; omega))
            have hs8 : (w7.setCell ⟨w2.heap.size, 1, none⟩ (.slice (some ⟨g, 0, none⟩) (n + 1) cc)).heap.size = w7.heap.size := by simp
            rw [← hs8] at oa ob
            simp only [List.setIfInBounds_toArray, List.set_cons_zero, List.set_cons_succ] at X4
            generalize (w7.setCell ⟨w2.heap.size, 1, none⟩ (.slice (some ⟨g, 0, none⟩) (n + 1) cc)) = w8 at *
            have HQ := Lib.hid (((X3.set_ 0 (.int .i64 P)).set_ 1 (.slice (some ⟨g, 0, none⟩) (n + 1) cc)).set_ 2 (.slice G2 m c2))
            have HF := Lib.hid (fin_own (t := w.heap.size + 1 + 1) (u0 := .int .i64 P) (u1 := .slice (some ⟨g, 0, none⟩) (n + 1) cc) (u2 := .slice G2 m c2) hB8 (by omega) lz oa ob hap)
            clear C1 C2 C3 C4 F3 F4 oa ob hap hB8 o2 hs8
            have C4 := X4.cell
            have C3 := X3.cell
            have F3 := X3.frozen
            clear X3 X4
            go_wp2
            have f0 := HQ.out.cell 0
            have f1 := HQ.out.cell 1
            have f2 := HQ.out.cell 2
            simp only [List.setIfInBounds_toArray, List.set_cons_zero, List.set_cons_succ, List.getElem?_toArray, List.getElem?_cons_succ, List.getElem?_cons_zero] at f0 f1 f2
            refine bodyPost_ret (v := .tuple #[.agg #[.int .i64 P, .slice (some ⟨g, 0, none⟩) (n + 1) cc, .slice G2 m c2], .int .i64 1]) (by simp [results, Try.results20, go_sem, f0, f1, f2]) rfl ?_
            exact ⟨some ⟨g, 0, none⟩, n + 1, cc, G2, m, c2, rfl, HF.out.1, by omega, by omega, HF.out.2⟩
end Go.Proofs.Ytoiaggjjfahabaa
