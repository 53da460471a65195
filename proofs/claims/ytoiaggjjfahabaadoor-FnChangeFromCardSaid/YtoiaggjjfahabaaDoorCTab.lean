/- coinTable of the program: the least numbers of coins out of a stock. Conditions: at most five kinds of 1 to 99, at most 300 of each, amounts up to 300. -/
import Derived.Test.YtoiaggjjfahabaaDoorTM
import Derived.Test.YtoiaggjjfahabaaDoorPStep
import Derived.BigQuiet
namespace Go.Proofs.YtoiaggjjfahabaaDoor
open Go.RowKit
set_option linter.unusedVariables false
/-- the least numbers of coins of the first i kinds, for all amounts up to a -/
def clR (z q : Nat → Nat) (i a : Nat) : List Int := (List.range (a + 1)).map fun s => cost z q i s
theorem clR_len (z q : Nat → Nat) (i a : Nat) : (clR z q i a).length = a + 1 := by simp [clR]
theorem clR_at (z q : Nat → Nat) (i : Nat) {a s : Nat} (h : s ≤ a) : (clR z q i a).getD s 0 = cost z q i s := by
  unfold clR
  rw [List.getD_eq_getElem?_getD, List.getElem?_map, List.getElem?_range (by omega)]; rfl
def tabR (z q : Nat → Nat) (a k : Nat) : List (List Int) := (List.range k).map fun i => clR z q i a
theorem tabR_at (z q : Nat → Nat) (a : Nat) {k i : Nat} (h : i < k) : (tabR z q a k).getD i [] = clR z q i a := by
  unfold tabR
  rw [List.getD_eq_getElem?_getD, List.getElem?_map, List.getElem?_range h]; rfl
theorem tabR_succ (z q : Nat → Nat) (a k : Nat) : tabR z q a (k + 1) = tabR z q a k ++ [clR z q k a] := by
  unfold tabR; rw [List.range_succ, List.map_append]; rfl
theorem cost_le (z q : Nat → Nat) (i s : Nat) (hz : ∀ j, j < i → 1 ≤ z j) : cost z q i s ≤ s := by
  induction i generalizing s with
  | zero => unfold cost; split <;> omega
  | succ i ih =>
    by_cases h : 0 ≤ cost z q (i + 1) s
    · obtain ⟨t, t1, t2, t3, _, _⟩ := best_top z q i s h
      have zi := hz i (by omega)
      have c := (cnt_iff zi).1 t1
      have := ih (s - t * z i) fun j hj => hz j (by omega)
      have : t ≤ t * z i := Nat.le_mul_of_pos_right _ zi
      omega
    · omega
theorem cTo_bd (f : Nat → Int) (c s J : Nat) (hf : ∀ s, -1 ≤ f s ∧ f s ≤ s) (hs : s ≤ 300) (hJ : J ≤ 301) : -1 ≤ cTo f c s J ∧ cTo f c s J ≤ 600 := by
  rcases cTo_spec f c s J with ⟨h, _⟩ | ⟨⟨j, h1, h2, h3⟩, _⟩
  · omega
  · have := hf (s - j * c)
    omega
/-- a row in the making: before s it is done, at s it is v -/
def rowC (l : List Int) (a s : Nat) (v : Int) : List Int := l.take s ++ v :: List.replicate (a - s) 0
theorem rowC_len {l : List Int} {a s : Nat} (v : Int) (hl : l.length = a + 1) (hs : s ≤ a) : (rowC l a s v).length = a + 1 := by
  unfold rowC; simp; omega
theorem rowC_at {l : List Int} {a s : Nat} (v : Int) (hl : l.length = a + 1) (hs : s ≤ a) : (rowC l a s v).getD s 0 = v := by
  unfold rowC
  rw [List.getD_eq_getElem?_getD, List.getElem?_append_right (by simp; omega)]
  have : s - (l.take s).length = 0 := by simp; omega
  rw [this]; rfl
theorem rowC_set {l : List Int} {a s : Nat} (v v' : Int) (hl : l.length = a + 1) (hs : s ≤ a) : (rowC l a s v).set s v' = rowC l a s v' := by
  unfold rowC
  rw [List.set_append_right _ _ (by simp; omega)]
  have : s - (l.take s).length = 0 := by simp; omega
  rw [this, List.set_cons_zero]
theorem rowC_first {l : List Int} {a s : Nat} (v : Int) (hl : l.length = a + 1) (hs : s ≤ a) : (l.take s ++ List.replicate (a + 1 - s) 0).set s v = rowC l a s v := by
  unfold rowC
  rw [List.set_append_right _ _ (by simp; omega), show a + 1 - s = (a - s) + 1 by omega, List.replicate_succ]
  have : s - (l.take s).length = 0 := by simp; omega
  rw [this, List.set_cons_zero]
theorem rowC_last {l : List Int} {a s : Nat} (hl : l.length = a + 1) (hs : s ≤ a) : rowC l a s (l.getD s 0) = l.take (s + 1) ++ List.replicate (a + 1 - (s + 1)) 0 := by
  unfold rowC
  have e : l.take (s + 1) = l.take s ++ [l.getD s 0] := by
    rw [List.take_succ_eq_append_getElem (by omega), List.getD_eq_getElem?_getD, List.getElem?_eq_getElem (by omega)]; rfl
  rw [e, List.append_assoc, show a + 1 - (s + 1) = a - s by omega]; rfl
/-- the table in new memory -/
def CT (w : World) (z q : Nat → Nat) (n a : Nat) (e : Ending) (w' : World) : Prop :=
  ∃ g bls, e = .returned (.slice (some ⟨g, 0, none⟩) (n + 1) (n + 1)) ∧ TbM w' g g (a + 1) bls (n + 1) (tabR z q a (n + 1)) ∧ bls.length = n + 1 ∧ w.heap.size ≤ g ∧ Below w.heap.size w w'
set_option maxRecDepth 100000 in
set_option maxHeartbeats 4000000 in
theorem coinTable_i (A Q : Option Addr) (n c1 c2 a : Nat) (zs qs : List Int) (z q : Nat → Nat) (w : World) (hA : Ints w A n zs) (hQ : Ints w Q n qs) (hn : n ≤ 5) (ha : a ≤ 300)
    (hz : ∀ j, j < n → zs.getD j 0 = (z j : Int) ∧ 1 ≤ z j ∧ z j ≤ 99) (hq : ∀ j, j < n → qs.getD j 0 = (q j : Int) ∧ q j ≤ 300) :
    Calls Tryd.prog 90 #[.slice A n c1, .slice Q n c2, .int .i64 a] w (CT w z q n a) := by
  have HZ := Lib.hid hz
  have HQ := Lib.hid hq
  have hbc : Hid (∀ i s, i ≤ n → -1 ≤ cost z q i s ∧ cost z q i s ≤ s) := fun i s hi => ⟨cost_bd z q i s, cost_le z q i s fun j hj => (hz j (by omega)).2.1⟩
  clear hz hq
  have hmk1 := run_make_row' (P := Tryd.prog) 45 28 (.slice none 0 0) 24 Tryd.underlying45 infoRm rfl .i64 .i64 (n + 1) (by omega) (by omega)
  have hmk2 := run_make_row' (P := Tryd.prog) 28 3 (.int .i64 0) 8 Tryd.underlying28 infoIm rfl .i64 .i64 (a + 1) (by omega) (by omega)
  rw [show ((n + 1 : Nat) : Int) = (n : Int) + 1 by omega] at hmk1
  rw [show ((a + 1 : Nat) : Int) = (a : Int) + 1 by omega] at hmk2
  go_enter Tryd.func90, Tryd.ntmps90
  go_upto_region 2 with fail
  have hT := TbM.new (lo := w.heap.size) (a + 1) w (n + 1) (Nat.le_refl _)
  have hb1 : Below w.heap.size w (w.alloc (.cells (madeCells #[.slice none 0 0] (n + 1)) 28)) := (Below.refl _ _).alloc (Nat.le_refl _) _
  have HW : Hid (w.heap.size ≤ w.heap.size) := Nat.le_refl _
  obtain ⟨g, hg⟩ : ∃ g, w.heap.size = g := ⟨_, rfl⟩
  obtain ⟨W1, hW1⟩ : ∃ W1, w.alloc (.cells (madeCells #[.slice none 0 0] (n + 1)) 28) = W1 := ⟨_, rfl⟩
  rw [hW1, hg] at hT hb1 ⊢
  have HG := Lib.hid hg
  clear hW1 hg hmk1
  have t1 := hT.outer.cell 0
  rw [slm_hi (by simp) (by omega)] at t1
  have t2 := hT.outer.frozen 0
  have htl := hT.outer.lt
  have hP := hT.push3 (zs := List.replicate (a + 1) 0) rfl (by simp) (by simp)
  have HP := Lib.hid hP
  have HB := Lib.hid hb1
  clear hT hP hb1
  go_upto_region 3 with fail
  rw [← ints_made] at HP
  have hb2 : Below g w ((W1.setCell ⟨g, 0, none⟩ (.slice (some ⟨W1.heap.size, 0, none⟩) (a + 1) (a + 1))).alloc (.cells (madeCells #[.int .i64 0] (a + 1)) 3)) := (HB.out.setCell (Nat.le_refl _) _).alloc (by have := HB.out.size; simp [World.setCell]; omega) _
  have hP := HP.out
  simp only [List.length_nil, List.nil_append] at hP
  obtain ⟨N, hN⟩ : ∃ N, W1.heap.size = N := ⟨_, rfl⟩
  rw [hN] at hP hb2 ⊢
  obtain ⟨W2, hW2⟩ : ∃ W2, (W1.setCell ⟨g, 0, none⟩ (.slice (some ⟨N, 0, none⟩) (a + 1) (a + 1))).alloc (.cells (madeCells #[.int .i64 0] (a + 1)) 3) = W2 := ⟨_, rfl⟩
  rw [hW2] at hP hb2 ⊢
  have e0 : List.replicate (a + 1) (0 : Int) = (clR z q 0 a).take (0 + 1) ++ List.replicate (a + 1 - (0 + 1)) 0 := by
    rw [List.replicate_succ, List.take_succ_eq_append_getElem (by rw [clR_len]; omega)]
    simp [clR, cost]
  rw [e0] at hP
  have HP2 := Lib.hid hP
  have HB2 := Lib.hid hb2
  clear HP HB hP hb2 hN hW2 t1 t2 htl e0
  go_wp2
  go_loopw [8] (fun i wx => ∃ s : Nat, s ≤ a ∧ i = .int .i64 ((s : Int) + 1) ∧ TbM wx g g (a + 1) [N] (n + 1) [(clR z q 0 a).take (s + 1) ++ List.replicate (a + 1 - (s + 1)) 0] ∧ Below g w wx) (fun i _ => a + 1 - (intOf i).toNat)
  case atStart => exact ⟨0, by omega, rfl, HP2.out, HB2.out⟩
  case round =>
    clear HP2 HB2
    obtain ⟨s, hs, rfl, hT, hb⟩ := hrel
    by_cases hlt : s < a
    · have t0 : decide ((s : Int) + 1 ≤ (a : Int)) = true := by simp; omega
      have c0 := hT.cellO (k := 0) (by simp)
      have r0 := (hT.row 0 (by simp)).int_cell (k := s + 1) (by rw [hT.six 0 (by simp)]; omega)
      have f0 := (hT.row 0 (by simp)).frozen (s + 1)
      simp only [List.getD_cons_zero] at c0 r0 f0
      have hx := hT.one (s + 1) (-1)
      have ev : (-1 : Int) = (clR z q 0 a).getD (s + 1) 0 := by rw [clR_at _ _ _ (by omega)]; unfold cost; rw [if_neg (by omega)]
      have el : ((clR z q 0 a).take (s + 1) ++ List.replicate (a + 1 - (s + 1)) 0).set (s + 1) (-1) = (clR z q 0 a).take (s + 1 + 1) ++ List.replicate (a + 1 - (s + 1 + 1)) 0 := by
        rw [ev]; exact fillM_next _ _ _ (clR_len z q 0 a) (by omega)
      rw [el] at hx
      have hbN := hT.beh 0 (by simp)
      simp only [List.getD_cons_zero] at hbN
      have hb2 : Below g w (wr.setCell ⟨N, s + 1, none⟩ (.int .i64 (-1))) := hb.setCell (by show g ≤ N; omega) _
      have HX := Lib.hid hx
      have HB := Lib.hid hb2
      clear hT hb hx hb2 ev el
      go_wp2
      go_roundw
      case rel => exact ⟨s + 1, hlt, by go_num, HX.out, HB.out⟩
      case measure => simp [intOf]; omega
    · obtain rfl : s = a := by omega
      have t0 : decide ((s : Int) + 1 ≤ (s : Int)) = false := by simp; omega
      rw [Nat.sub_self, List.replicate_zero, List.append_nil, List.take_of_length_le (by rw [clR_len]; exact Nat.le_refl _)] at hT
      have e1 : [clR z q 0 s] = tabR z q s (0 + 1) := rfl
      rw [e1] at hT
      have HT := Lib.hid hT
      have HB := Lib.hid hb
      clear hT hb e1
      go_wp2
      clear t0
      go_loopw [36] (fun i wx => ∃ (k : Nat) (bls : List Nat), k ≤ n ∧ i = .int .i64 k ∧ bls.length = k + 1 ∧ TbM wx g g (s + 1) bls (n + 1) (tabR z q s (k + 1)) ∧ Below g w wx) (fun i _ => n - (intOf i).toNat)
      case atStart => exact ⟨0, [N], by omega, rfl, rfl, HT.out, HB.out⟩
      case round =>
        clear HT HB
        obtain ⟨k, bls, hk, rfl, hbl, hT, hb⟩ := hrel
        by_cases hlt : k < n
        · obtain ⟨zb, zo, rfl, hzl, hzc⟩ := hA.2 (by omega)
          obtain ⟨qb, qo, rfl, hql, hqc⟩ := hQ.2 (by omega)
          have z0 := hzc k hlt
          have q0 := hqc k hlt
          obtain ⟨hzk, hz1, hz2⟩ := HZ.out k hlt
          obtain ⟨hqk, hq1⟩ := HQ.out k hlt
          rw [hzk] at z0
          rw [hqk] at q0
          rw [HG.out] at hzl hql
          have d0 := (hb.cell (p := ⟨zb, zo + k, none⟩) hzl).trans z0
          obtain ⟨c, hc⟩ : ∃ c, z k = c := ⟨_, rfl⟩
          obtain ⟨Q', hQ'⟩ : ∃ Q', q k = Q' := ⟨_, rfl⟩
          rw [hc] at d0 hz1 hz2
          rw [hQ'] at q0 hq1
          have HC := Lib.hid hc
          have HQ' := Lib.hid hQ'
          have i1 : (0 : Int) ≤ (k : Int) := by omega
          have i2 : (k : Int) < (n : Int) := by omega
          have hbw : Below wr.heap.size wr (wr.alloc (.cells (madeCells #[.int .i64 0] (s + 1)) 3)) := (Below.refl _ _).alloc (Nat.le_refl _) _
          have hTa := hT.below hbw
          have hba : Below g w (wr.alloc (.cells (madeCells #[.int .i64 0] (s + 1)) 3)) := hb.trans (hbw.mono (by have := hT.outer.lt; omega))
          have hBa := Blk.new wr 3 (madeCells #[.int .i64 0] (s + 1))
          have hgb := hT.outer.lt
          have hrb : ∀ i, i < bls.length → bls.getD i 0 < wr.heap.size := fun i hi => (hT.row i hi).lt
          have HRB := Lib.hid hrb
          have HTA := Lib.hid hTa
          have HBA := Lib.hid hba
          have HBK := Lib.hid hBa
          clear hzc hqc z0 hzk hqk hc hQ' hbw hTa hba hBa hrb hT hb
          go_upto_region 11 with fail
          obtain ⟨W3, hW3⟩ : ∃ W3, wr.alloc (.cells (madeCells #[.int .i64 0] (s + 1)) 3) = W3 := ⟨_, rfl⟩
          obtain ⟨b, hb⟩ : ∃ b, wr.heap.size = b := ⟨_, rfl⟩
          rw [ints_made] at HBK
          have HBK2 : Hid (Blk (wr.alloc (.cells (madeCells #[.int .i64 0] (s + 1)) 3)) wr.heap.size 3 (ints ((clR z q (k + 1) s).take 0 ++ List.replicate (s + 1 - 0) 0))) := by
            have h := HBK.out
            rw [← ints_made] at h
            rw [show ints ((clR z q (k + 1) s).take 0 ++ List.replicate (s + 1 - 0) 0) = madeCells #[.int .i64 0] (s + 1) by rw [ints_made]; rfl]
            exact h
          rw [hW3] at HTA HBA HBK2 ⊢
          rw [hb] at HBK2 HRB hgb ⊢
          clear HBK hW3 hb d0
          go_wp2
          go_loopw [46] (fun i wy => ∃ t : Nat, t ≤ s + 1 ∧ i = .int .i64 t ∧ TbM wy g g (s + 1) bls (n + 1) (tabR z q s (k + 1)) ∧ Blk wy b 3 (ints ((clR z q (k + 1) s).take t ++ List.replicate (s + 1 - t) 0)) ∧ Below g w wy) (fun i _ => s + 1 - (intOf i).toNat)
          case atStart => exact ⟨0, by omega, rfl, HTA.out, HBK2.out, HBA.out⟩
          case round =>
            clear HTA HBK2 HBA
            obtain ⟨t, ht, rfl, hT, hR, hb⟩ := hrel
            by_cases hlt2 : t < s + 1
            · have t0 : decide ((t : Int) < (s : Int) + 1) = true := by simp; omega
              have r0 := hR.int_cell (k := t) (by simp [clR_len]; omega)
              have f0 := hR.frozen t
              have hR1 := hR.int_set t (-1)
              rw [rowC_first (-1) (clR_len z q (k + 1) s) (by omega)] at hR1
              have e1 : (-1 : Int) = cTo (cost z q k) c t 0 := rfl
              have hTx := hT.far (p := ⟨b, t, none⟩) (by show b ≠ g; omega) (fun i hi => by have := HRB.out i hi; show b ≠ _; omega) (.int .i64 (-1))
              have hbx : Below g w (wr.setCell ⟨b, t, none⟩ (.int .i64 (-1))) := hb.setCell (by show g ≤ b; omega) _
              have HTX := Lib.hid hTx
              have HBX := Lib.hid hbx
              have HRX : Hid (Blk (wr.setCell ⟨b, t, none⟩ (.int .i64 (-1))) b 3 (ints (rowC (clR z q (k + 1) s) s t (cTo (cost z q k) c t 0)))) := hR1
              have i3 : (0 : Int) ≤ (t : Int) := by omega
              have i4 : (t : Int) < (s : Int) + 1 := by omega
              clear hT hR hb hR1 e1 hTx hbx
              go_wp2
              clear r0 f0
              go_loopw [13] (fun v wz => ∃ j : Nat, j ≤ cnt Q' c t ∧ v = .int .i64 j ∧ TbM wz g g (s + 1) bls (n + 1) (tabR z q s (k + 1)) ∧ Blk wz b 3 (ints (rowC (clR z q (k + 1) s) s t (cTo (cost z q k) c t j))) ∧ Below g w wz) (fun v _ => cnt Q' c t - (intOf v).toNat)
              case atStart => exact ⟨0, by omega, rfl, HTX.out, HRX.out, HBX.out⟩
              case round =>
                clear HTX HRX HBX
                obtain ⟨j, hj, rfl, hT, hR, hb⟩ := hrel
                have q1 := (hb.cell (p := ⟨qb, qo + k, none⟩) hql).trans q0
                have hcn := cnt_iff (q := Q') (s := t) (j := j) hz1
                have hcn2 : cnt Q' c t ≤ 301 := by unfold cnt; omega
                obtain ⟨M, hM⟩ : ∃ M, j * c = M := ⟨_, rfl⟩
                have hmul : (j : Int) * (c : Int) = (M : Int) := by rw [← hM, Int.natCast_mul]
                have hMb : M ≤ 301 * 99 := by rw [← hM]; exact Nat.mul_le_mul (by omega) hz2
                rw [hM] at hcn
                have u1 : IntKind.i64.wrap ((j : Int) * (c : Int)) = (M : Int) := by rw [hmul]; exact IntWalk.i64_in _ (by omega)
                by_cases hlt3 : j < cnt Q' c t
                · obtain ⟨g1, g2⟩ := hcn.1 hlt3
                  have b1 : decide (j ≤ Q') = true := by simp; omega
                  have b2 : decide (M ≤ t) = true := by simp; omega
                  have u2 : IntKind.i64.wrap ((t : Int) - (M : Int)) = (t : Int) - (M : Int) := IntWalk.i64_in _ (by omega)
                  have k1 : 0 ≤ (t : Int) - (M : Int) := by omega
                  have k2 : (t : Int) - (M : Int) < (s : Int) + 1 := by omega
                  have k3 : (k : Int) < (n : Int) + 1 := by omega
                  have o0 := hT.cellO (k := k) (by omega)
                  have o1 := hT.cellR (k := k) (j := ((t : Int) - (M : Int)).toNat) (by omega) (by omega)
                  rw [tabR_at z q s (by omega), clR_at z q k (by omega), show ((t : Int) - (M : Int)).toNat = t - M by omega] at o1
                  have o1' : wr.cell? ⟨bls.getD k 0, ((t : Int) - (M : Int)).toNat, none⟩ = some (.int .i64 (cost z q k (t - M))) := by rw [show ((t : Int) - (M : Int)).toNat = t - M by omega]; exact o1
                  have r0 := hR.int_cell (k := t) (by rw [rowC_len _ (clR_len z q (k + 1) s) (by omega)]; omega)
                  rw [rowC_at _ (clR_len z q (k + 1) s) (by omega)] at r0
                  have f0 := hR.frozen t
                  have bT := hbc.out k (t - M) (by omega)
                  have bB := cTo_bd (cost z q k) c t j (fun s => hbc.out k s (by omega)) (by omega) (by omega)
                  have hnx : cTo (cost z q k) c t (j + 1) = if 0 ≤ cost z q k (t - M) ∧ (cTo (cost z q k) c t j < 0 ∨ cost z q k (t - M) + j < cTo (cost z q k) c t j) then cost z q k (t - M) + j else cTo (cost z q k) c t j := by rw [← hM]; rfl
                  obtain ⟨X, hX⟩ : ∃ X, cost z q k (t - M) = X := ⟨_, rfl⟩
                  obtain ⟨B, hB⟩ : ∃ B, cTo (cost z q k) c t j = B := ⟨_, rfl⟩
                  obtain ⟨bk, hbk⟩ : ∃ bk, bls.getD k 0 = bk := ⟨_, rfl⟩
                  rw [hX] at o1 o1' bT hnx
                  rw [hB] at r0 bB hnx hR
                  rw [hbk] at o0 o1 o1'
                  have HNX := Lib.hid hnx
                  have HT := Lib.hid hT
                  have HR := Lib.hid hR
                  have HBB := Lib.hid hb
                  clear hcn hcn2 hM hMb hmul hX hB hbk hnx hT hR hb
                  by_cases hx : 0 ≤ X
                  · have x1 : decide (0 ≤ X) = true := by simpa using hx
                    by_cases hbn : B < 0
                    · have x2 : decide (B < 0) = true := by simpa using hbn
                      have e1 : Hid (cTo (cost z q k) c t (j + 1) = X + j) := by show _ = _; rw [HNX.out, if_pos ⟨hx, .inl hbn⟩]
                      have hR2 := HR.out.int_set t (X + j)
                      rw [rowC_set _ _ (clR_len z q (k + 1) s) (by omega)] at hR2
                      have hT2 := HT.out.far (p := ⟨b, t, none⟩) (by show b ≠ g; omega) (fun i hi => by have := HRB.out i hi; show b ≠ _; omega) (.int .i64 (X + j))
                      have hb2 : Below g w (wr.setCell ⟨b, t, none⟩ (.int .i64 (X + j))) := HBB.out.setCell (by show g ≤ b; omega) _
                      have HR2 := Lib.hid hR2
                      have HT2 := Lib.hid hT2
                      have HB2 := Lib.hid hb2
                      clear hx hbn hR2 hT2 hb2
                      go_wp2
                      go_roundw
                      case rel => exact ⟨j + 1, hlt3, by go_num, HT2.out, by rw [e1.out]; exact HR2.out, HB2.out⟩
                      case measure => simp [intOf]; omega
                    · have x2 : decide (B < 0) = false := by simpa using hbn
                      by_cases hxb : X + j < B
                      · have x3 : decide (X + (j : Int) < B) = true := by simpa using hxb
                        have e1 : Hid (cTo (cost z q k) c t (j + 1) = X + j) := by show _ = _; rw [HNX.out, if_pos ⟨hx, .inr hxb⟩]
                        have hR2 := HR.out.int_set t (X + j)
                        rw [rowC_set _ _ (clR_len z q (k + 1) s) (by omega)] at hR2
                        have hT2 := HT.out.far (p := ⟨b, t, none⟩) (by show b ≠ g; omega) (fun i hi => by have := HRB.out i hi; show b ≠ _; omega) (.int .i64 (X + j))
                        have hb2 : Below g w (wr.setCell ⟨b, t, none⟩ (.int .i64 (X + j))) := HBB.out.setCell (by show g ≤ b; omega) _
                        have HR2 := Lib.hid hR2
                        have HT2 := Lib.hid hT2
                        have HB2 := Lib.hid hb2
                        clear hx hbn hxb hR2 hT2 hb2
                        go_wp2
                        go_roundw
                        case rel => exact ⟨j + 1, hlt3, by go_num, HT2.out, by rw [e1.out]; exact HR2.out, HB2.out⟩
                        case measure => simp [intOf]; omega
                      · have x3 : decide (X + (j : Int) < B) = false := by simpa using hxb
                        have e1 : Hid (cTo (cost z q k) c t (j + 1) = B) := by show _ = _; rw [HNX.out, if_neg (fun q => by have := q.2; omega)]
                        have hR2 := HR.out
                        rw [← e1.out] at hR2
                        have HR2 := Lib.hid hR2
                        clear hx hbn hxb hR2
                        go_wp2
                        go_roundw
                        case rel => exact ⟨j + 1, hlt3, by go_num, HT.out, HR2.out, HBB.out⟩
                        case measure => simp [intOf]; omega
                  · have x1 : decide (0 ≤ X) = false := by simpa using hx
                    have e1 : Hid (cTo (cost z q k) c t (j + 1) = B) := by show _ = _; rw [HNX.out, if_neg (fun q => hx q.1)]
                    have hR2 := HR.out
                    rw [← e1.out] at hR2
                    have HR2 := Lib.hid hR2
                    clear hx hR2
                    go_wp2
                    go_roundw
                    case rel => exact ⟨j + 1, hlt3, by go_num, HT.out, HR2.out, HBB.out⟩
                    case measure => simp [intOf]; omega
                · obtain rfl : j = cnt Q' c t := by omega
                  have e1 : cTo (cost z q k) c t (cnt Q' c t) = (clR z q (k + 1) s).getD t 0 := by rw [clR_at z q (k + 1) (by omega), ← HC.out, ← HQ'.out]; rfl
                  rw [e1, rowC_last (clR_len z q (k + 1) s) (by omega)] at hR
                  have hno := fun q => hlt3 (hcn.2 q)
                  obtain ⟨J, hJ⟩ : ∃ J, cnt Q' c t = J := ⟨_, rfl⟩
                  rw [hJ] at u1 hno hcn2 ⊢
                  by_cases hjq : J ≤ Q'
                  · have b1 : decide (J ≤ Q') = true := by simp; omega
                    have b2 : decide (M ≤ t) = false := by simp only [decide_eq_false_iff_not]; exact fun q => hno ⟨hjq, q⟩
                    clear hcn hno hJ hjq hM hmul e1 hlt3 hj
                    go_wp2
                    go_roundw
                    case rel => exact ⟨t + 1, by omega, by go_num, hT, hR, hb⟩
                    case measure => simp [intOf]; omega
                  · have b1 : decide (J ≤ Q') = false := by simp; omega
                    clear hcn hno hJ hjq hM hmul e1 hlt3 hj
                    go_wp2
                    go_roundw
                    case rel => exact ⟨t + 1, by omega, by go_num, hT, hR, hb⟩
                    case measure => simp [intOf]; omega
            · obtain rfl : t = s + 1 := by omega
              have t0 : decide (((s + 1 : Nat) : Int) < (s : Int) + 1) = false := by simp
              rw [Nat.sub_self, List.replicate_zero, List.append_nil, List.take_of_length_le (by rw [clR_len]; exact Nat.le_refl _)] at hR
              have o0 := hT.outer.cell (k + 1)
              rw [slm_hi (by omega) (by omega)] at o0
              have f0 := hT.outer.frozen (k + 1)
              have hP := hT.push (by omega) hR (clR_len z q (k + 1) s) hgb
              rw [hbl, ← tabR_succ] at hP
              have hb2 : Below g w (wr.setCell ⟨g, k + 1, none⟩ (.slice (some ⟨b, 0, none⟩) (s + 1) (s + 1))) := hb.setCell (Nat.le_refl _) _
              have HP := Lib.hid hP
              have HB2 := Lib.hid hb2
              have i5 : (k : Int) + 1 < (n : Int) + 1 := by omega
              clear hT hR hb hP hb2
              go_wp2
              go_roundw
              case rel => exact ⟨k + 1, bls ++ [b], hlt, by go_num, by simp [hbl], HP.out, HB2.out⟩
              case measure => simp [intOf]; omega
        · obtain rfl : k = n := by omega
          go_wp2
          go_ret
          exact ⟨g, bls, rfl, hT, hbl, by rw [HG.out]; exact Nat.le_refl _, by rw [HG.out]; exact hb⟩
end Go.Proofs.YtoiaggjjfahabaaDoor
