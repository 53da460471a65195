/- coinWay of the program: the fewest coins out of a stock. Conditions: one to five kinds of 1 to 99, at most 300 of each, amounts up to 300. -/
import Derived.Test.YtoiaggjjfahabaaDoorCTab
import Derived.Test.YtoiaggjjfahabaaDoorMark
namespace Go.Proofs.YtoiaggjjfahabaaDoor
open Go.RowKit
set_option linter.unusedVariables false
/-- the coins -/
def cwV (z q : Nat → Nat) (n a : Nat) : List Int := if 0 ≤ cost z q n a then (way z q n a).map Int.ofNat else []
def cwO (z q : Nat → Nat) (n a : Nat) : Bool := decide (0 ≤ cost z q n a)
theorem cw_set (k t : Nat) (rest : List Nat) : (List.replicate (k + 1) (0 : Int) ++ rest.map Int.ofNat).set k (t : Int) = List.replicate k 0 ++ (t :: rest).map Int.ofNat := by
  rw [List.replicate_succ', List.append_assoc, List.set_append_right _ _ (by simp)]
  simp
theorem cw_min (Q S N : Int) : (if N < if S < Q then S else Q then N else if S < Q then S else Q) = min (min Q S) N := by
  split <;> split <;> omega
set_option maxRecDepth 100000 in
set_option maxHeartbeats 4000000 in
theorem coinWay_i (A Q : Option Addr) (n c1 c2 a : Nat) (zs qs : List Int) (z q : Nat → Nat) (w : World) (hA : Ints w A n zs) (hQ : Ints w Q n qs) (hn1 : 1 ≤ n) (hn : n ≤ 5) (ha : a ≤ 300)
    (hz : ∀ j, j < n → zs.getD j 0 = (z j : Int) ∧ 1 ≤ z j ∧ z j ≤ 99) (hq : ∀ j, j < n → qs.getD j 0 = (q j : Int) ∧ q j ≤ 300) :
    Calls Tryd.prog 52 #[.slice A n c1, .slice Q n c2, .int .i64 a] w (ResI w (cwV z q n a) (cwO z q n a)) := by
  have T0 := coinTable_i A Q n c1 c2 a zs qs z q w hA hQ hn ha hz hq
  have HZ := Lib.hid hz
  have HQ := Lib.hid hq
  have hbc : Hid (∀ i s, i ≤ n → -1 ≤ cost z q i s ∧ cost z q i s ≤ s) := fun i s hi => ⟨cost_bd z q i s, cost_le z q i s fun j hj => (hz j (by omega)).2.1⟩
  clear hz hq
  have hmk := run_make_row' (P := Tryd.prog) 28 3 (.int .i64 0) 8 Tryd.underlying28 infoIm rfl .i64 .i64 n (by omega) (by omega)
  obtain ⟨zb, zo, rfl, hzl, hzc⟩ := hA.2 (by omega)
  obtain ⟨qb, qo, rfl, hql, hqc⟩ := hQ.2 (by omega)
  go_enter Tryd.func52, Tryd.ntmps52
  go_upto_region 2 with (go_at_call 90; ((with_reducible refine T0.mono ?_); rintro e w1 ⟨g, bls, rfl, hT, hbl, hg, hb1⟩; clear T0))
  have o0 := hT.cellO (k := n) (by omega)
  have o1 := hT.cellR (k := n) (j := a) (by omega) (by omega)
  rw [tabR_at z q a (by omega), clR_at z q n (Nat.le_refl _)] at o1
  have bc := hbc.out n a (Nat.le_refl _)
  obtain ⟨C, hC⟩ : ∃ C, cost z q n a = C := ⟨_, rfl⟩
  obtain ⟨bn, hbn⟩ : ∃ bn, bls.getD n 0 = bn := ⟨_, rfl⟩
  rw [hC] at o1 bc
  rw [hbn] at o0 o1
  have HC := Lib.hid hC
  have HT := Lib.hid hT
  have HB := Lib.hid hb1
  have hg1 := hT.outer.lt
  have k1 : (n : Int) < (n : Int) + 1 := by omega
  have k2 : (a : Int) < (a : Int) + 1 := by omega
  clear hC hbn hT hb1
  by_cases hc : C < 0
  · have x1 : decide (C < 0) = true := by simpa using hc
    have e1 : Hid (cwV z q n a = []) := by show _ = _; unfold cwV; rw [HC.out, if_neg (by omega)]
    have e2 : Hid (cwO z q n a = false) := by show _ = _; unfold cwO; rw [HC.out, decide_eq_false_iff_not]; omega
    clear hc hzc hqc
    go_wp2
    go_ret2
    rw [e1.out, e2.out]
    exact ResI.nil _ _ _ _ _ HB.out
  · have x1 : decide (C < 0) = false := by simpa using hc
    have e1 : Hid (cwV z q n a = (way z q n a).map Int.ofNat) := by show _ = _; unfold cwV; rw [HC.out, if_pos (by omega)]
    have e2 : Hid (cwO z q n a = true) := by show _ = _; unfold cwO; rw [HC.out, decide_eq_true_iff]; omega
    have hbw : Below w1.heap.size w1 (w1.alloc (.cells (madeCells #[.int .i64 0] n) 3)) := (Below.refl _ _).alloc (Nat.le_refl _) _
    have hTa := HT.out.below hbw
    have hba := bt HB.out hbw
    have hBa := Blk.new w1 3 (madeCells #[.int .i64 0] n)
    have hrb : ∀ i, i < bls.length → bls.getD i 0 < w1.heap.size := fun i hi => (HT.out.row i hi).lt
    have hws := HB.out.size
    go_upto_region 7 with fail
    obtain ⟨W2, hW2⟩ : ∃ W2, w1.alloc (.cells (madeCells #[.int .i64 0] n) 3) = W2 := ⟨_, rfl⟩
    obtain ⟨b, hb⟩ : ∃ b, w1.heap.size = b := ⟨_, rfl⟩
    have hB0 : Blk (w1.alloc (.cells (madeCells #[.int .i64 0] n) 3)) w1.heap.size 3 (ints (List.replicate n 0 ++ ([] : List Nat).map Int.ofNat)) := by
      rw [show List.replicate n (0 : Int) ++ ([] : List Nat).map Int.ofNat = List.replicate n 0 by simp, ← ints_made]; exact hBa
    rw [hW2] at hTa hba hB0 ⊢
    rw [hb] at hB0 hrb hws hg1 ⊢
    have HTA := Lib.hid hTa
    have HBA := Lib.hid hba
    have HB0 := Lib.hid hB0
    have HRB := Lib.hid hrb
    have hC0 : 0 ≤ C := by omega
    have HBL := Lib.hid hbl
    clear hbw hTa hba hBa hB0 hrb hW2 hb hmk HT HB o0 o1 hc x1 hbl k1 k2
    go_loopw [2, 9, 11] (fun am nd i wx => ∃ (k s : Nat) (rest : List Nat), k ≤ n ∧ i = .int .i64 ((k : Int) - 1) ∧ s ≤ a ∧ am = .int .i64 s ∧ nd = .int .i64 (cost z q k s) ∧ 0 ≤ cost z q k s ∧ way z q n a = way z q k s ++ rest ∧ Blk wx b 3 (ints (List.replicate k 0 ++ rest.map Int.ofNat)) ∧ TbM wx g g (a + 1) bls (n + 1) (tabR z q a (n + 1)) ∧ Below w.heap.size w wx) (fun _ _ i _ => (intOf i + 1).toNat)
    case atStart => exact ⟨n, a, [], Nat.le_refl _, by simp, Nat.le_refl _, rfl, by rw [HC.out], by rw [HC.out]; exact hC0, by simp, HB0.out, HTA.out, HBA.out⟩
    case round =>
      clear HTA HBA HB0
      obtain ⟨k, s, rest, hk, rfl, hs, rfl, rfl, hcp, hway, hR, hT, hb⟩ := hrel
      by_cases hk0 : 0 < k
      · obtain ⟨k, rfl⟩ : ∃ k', k = k' + 1 := ⟨k - 1, by omega⟩
        have ek : ((k + 1 : Nat) : Int) - 1 = (k : Int) := by omega
        rw [ek]
        obtain ⟨hzk, hz1, hz2⟩ := HZ.out k (by omega)
        obtain ⟨hqk, hq1⟩ := HQ.out k (by omega)
        have z0 := hzc k (by omega)
        have q0 := hqc k (by omega)
        rw [hzk] at z0
        rw [hqk] at q0
        have d0 := (hb.cell (p := ⟨zb, zo + k, none⟩) hzl).trans z0
        have d1 := (hb.cell (p := ⟨qb, qo + k, none⟩) hql).trans q0
        obtain ⟨t, t1, t2, t3, t4, t5⟩ := best_top z q k s hcp
        have hcb := hbc.out (k + 1) s (by omega)
        have hcn := (cnt_iff (q := q k) (s := s) (j := t) hz1).1 t1
        have hwy := way_succ z q k s
        rw [t5] at hwy
        have hb0 := fun m => hbc.out k m (by omega)
        have hub : topN z q k s ≤ min (min (q k) (s / z k)) (cost z q (k + 1) s).toNat := by
          rw [t5]
          have : t ≤ s / z k := (Nat.le_div_iff_mul_le (by omega)).2 hcn.2
          omega
        rw [t5] at hub
        have hcn2 : ∀ m, m ≤ min (q k) (s / z k) → m < cnt (q k) (z k) s := fun m hm => by unfold cnt; omega
        have hdv : s / z k ≤ s := Nat.div_le_self _ _
        have hsd : ∀ m, m ≤ s / z k → m * z k ≤ s := fun m hm => (Nat.le_div_iff_mul_le (by omega)).1 hm
        obtain ⟨c, hc⟩ : ∃ c, z k = c := ⟨_, rfl⟩
        obtain ⟨Q', hQ'⟩ : ∃ Q', q k = Q' := ⟨_, rfl⟩
        obtain ⟨X, hX⟩ : ∃ X, cost z q (k + 1) s = X := ⟨_, rfl⟩
        obtain ⟨SC, hSC⟩ : ∃ SC, s / c = SC := ⟨_, rfl⟩
        rw [hc] at d0 hz1 hz2 t2 t3 t4 hcn hwy hub hcn2 hdv hsd
        rw [hQ'] at d1 hq1 t4 hub hcn2
        rw [hX] at hcp hcb t3 t4 hub
        rw [hSC] at hub hcn2 hdv hsd
        rw [hX]
        have hdiv : (s : Int) / (c : Int) = (SC : Int) := by rw [← hSC]; exact (Int.natCast_ediv s c).symm
        have hdiv2 : Int.tdiv (s : Int) (c : Int) = (SC : Int) := by rw [Int.tdiv_eq_ediv_of_nonneg (by omega)]; exact hdiv
        have hc0 : ((c : Int) == 0) = false := by simp; omega
        have HT2 := Lib.hid t2
        have HT3 := Lib.hid t3
        have HT4 := Lib.hid t4
        have HSD := Lib.hid hsd
        have HCN := Lib.hid hcn2
        have HWY := Lib.hid hwy
        have HWAY := Lib.hid hway
        have HB0 := Lib.hid hb0
        have HTT := Lib.hid hT
        have HR := Lib.hid hR
        have HBB := Lib.hid hb
        have HZC := Lib.hid hzc
        have HQC := Lib.hid hqc
        rw [hc] at z0
        have HZ0 := Lib.hid z0
        have i1 : (0 : Int) ≤ (k : Int) := by omega
        have i2 : (k : Int) < (n : Int) := by omega
        clear t1 t2 t3 t4 t5 hcn2 hsd hwy hway hb0 hT hR hb hzc hqc z0 q0 hzk hqk hc hQ' hX hSC ek
        go_upto_region 9 with fail
        go_quiet (fail)
        obtain ⟨U, hU⟩ : ∃ U, min (min Q' SC) X.toNat = U := ⟨_, rfl⟩
        have eU : (if X < if SC < Q' then (SC : Int) else (Q' : Int) then X else if SC < Q' then (SC : Int) else (Q' : Int)) = (U : Int) := by rw [← hU]; split <;> split <;> omega
        rw [eU]
        rw [hU] at hub
        have hU1 : U ≤ SC := by omega
        have hU2 : U ≤ Q' := by omega
        have hU3 : (U : Int) ≤ X := by omega
        have hdr : Below wr.heap.size wr (wr.drewN nq) := bdN (Below.refl _ _) nq
        have HT5 := Lib.hid (HTT.out.below hdr)
        have HR5 := Lib.hid (HR.out.below hdr HR.out.lt)
        have HB5 := Lib.hid (bt HBB.out hdr)
        clear eU hU hdr HTT HR HBB d0 d1
        go_wp2
        go_loopw [12] (fun v wz => ∃ m : Nat, t ≤ m ∧ m ≤ U ∧ v = .int .i64 m ∧ TbM wz g g (a + 1) bls (n + 1) (tabR z q a (n + 1)) ∧ Blk wz b 3 (ints (List.replicate (k + 1) 0 ++ rest.map Int.ofNat)) ∧ Below w.heap.size w wz) (fun v _ => (intOf v).toNat)
        case atStart => exact ⟨U, hub, Nat.le_refl _, rfl, HT5.out, HR5.out, HB5.out⟩
        case round =>
          clear HT5 HR5 HB5
          obtain ⟨m, hm1, hm2, rfl, hT, hR, hb⟩ := hrel
          have d0 := (hb.cell (p := ⟨zb, zo + k, none⟩) hzl).trans HZ0.out
          obtain ⟨M, hM⟩ : ∃ M, m * c = M := ⟨_, rfl⟩
          have hmul : (m : Int) * (c : Int) = (M : Int) := by rw [← hM, Int.natCast_mul]
          have hMs : M ≤ s := by rw [← hM]; exact HSD.out m (by omega)
          have u1 : IntKind.i64.wrap ((m : Int) * (c : Int)) = (M : Int) := by rw [hmul]; exact IntWalk.i64_in _ (by omega)
          have u2 : IntKind.i64.wrap ((s : Int) - (M : Int)) = (s : Int) - (M : Int) := IntWalk.i64_in _ (by omega)
          have u3 : IntKind.i64.wrap (X - (m : Int)) = X - (m : Int) := IntWalk.i64_in _ (by omega)
          have o0 := hT.cellO (k := k) (by rw [HBL.out]; omega)
          have o1 := hT.cellR (k := k) (j := s - M) (by rw [HBL.out]; omega) (by omega)
          rw [tabR_at z q a (by omega), clR_at z q k (by omega)] at o1
          have hk1 : (k : Int) < (n : Int) + 1 := by omega
          have hs1 : 0 ≤ (s : Int) - (M : Int) := by omega
          have hs2 : (s : Int) - (M : Int) < (a : Int) + 1 := by omega
          obtain ⟨bk, hbk⟩ : ∃ bk, bls.getD k 0 = bk := ⟨_, rfl⟩
          rw [hbk] at o0 o1
          have o1' : wr.cell? ⟨bk, ((s : Int) - (M : Int)).toNat, none⟩ = some (.int .i64 (cost z q k (s - M))) := by rw [show ((s : Int) - (M : Int)).toNat = s - M by omega]; exact o1
          have r0 := hR.int_cell (k := k) (by simp; omega)
          have f0 := hR.frozen k
          by_cases he : m = t
          · subst he
            have h3 := HT3.out
            have h2 := HT2.out
            have hw2 := HWY.out
            rw [hM] at h3 h2 hw2
            obtain ⟨Y, hY⟩ : ∃ Y, cost z q k (s - M) = Y := ⟨_, rfl⟩
            rw [hY] at o1 o1' h3 h2
            have tb : (Y != X - (m : Int)) = false := by simp; omega
            have HRS : Hid (∀ nq, Blk ((wr.drewN nq).setCell ⟨b, k, none⟩ (.int .i64 (m : Int))) b 3 (ints (List.replicate k 0 ++ (m :: rest).map Int.ofNat))) := fun nq => by
              have h := (hR.below (bdN (Below.refl _ _) nq) hR.lt).int_set k (m : Int)
              rw [cw_set] at h; exact h
            have HTS : Hid (∀ nq, TbM ((wr.drewN nq).setCell ⟨b, k, none⟩ (.int .i64 (m : Int))) g g (a + 1) bls (n + 1) (tabR z q a (n + 1))) := fun nq => (hT.below (bdN (Below.refl _ _) nq)).far (p := ⟨b, k, none⟩) (by show b ≠ g; omega) (fun i hi => by have := HRB.out i hi; show b ≠ _; omega) (.int .i64 (m : Int))
            have HBS : Hid (∀ nq, Below w.heap.size w ((wr.drewN nq).setCell ⟨b, k, none⟩ (.int .i64 (m : Int)))) := fun nq => (bt hb (bdN (Below.refl _ _) nq)).setCell (by show w.heap.size ≤ b; omega) _
            have HW2 := Lib.hid hw2
            have HY := Lib.hid hY
            have H3 := Lib.hid h3
            have H2 := Lib.hid h2
            clear hT hR hb hM hmul hbk hY hw2 h3 h2
            go_upto_region 10 with fail
            go_quiet (fail)
            go_wp2
            go_roundw
            case rel =>
              have h3 := H3.out
              refine ⟨k, s - M, m :: rest, by omega, rfl, by omega, congrArg (Value.int .i64) (by omega), by rw [HY.out]; exact congrArg (Value.int .i64) (by omega), by rw [HY.out]; exact H2.out, ?_, HRS.out _, HTS.out _, HBS.out _⟩
              rw [HWAY.out, HW2.out, List.append_assoc]; rfl
            case measure => simp [intOf]
          · have h4 := HT4.out m (by omega) (HCN.out m (by omega))
            rw [hM] at h4
            have hb0 := HB0.out (s - M)
            obtain ⟨Y, hY⟩ : ∃ Y, cost z q k (s - M) = Y := ⟨_, rfl⟩
            rw [hY] at o1 o1' h4 hb0
            have tb : (Y != X - (m : Int)) = true := by
              simp only [bne_iff_ne, ne_eq]
              intro e
              by_cases g0 : 0 ≤ Y
              · have := h4 g0; omega
              · omega
            have hdr := hb
            have HT5 := Lib.hid hT
            have HR5 := Lib.hid hR
            have HB5 := Lib.hid hb
            obtain ⟨m', rfl⟩ : ∃ m', m = m' + 1 := ⟨m - 1, by omega⟩
            rw [show ((m' + 1 : Nat) : Int) = (m' : Int) + 1 by omega] at tb u1 u3
            clear hT hR hb hM hmul hbk hY h4 hb0 hdr r0 f0
            go_upto_region 10 with fail
            go_quiet (fail)
            go_wp2
            go_roundw
            case rel => exact ⟨m', by omega, by omega, by go_num, HT5.out.below (bdN (Below.refl _ _) _), HR5.out.below (bdN (Below.refl _ _) _) HR5.out.lt, bt HB5.out (bdN (Below.refl _ _) _)⟩
            case measure => first | (simp [intOf]; done) | (simp [intOf]; omega)
      · obtain rfl : k = 0 := by omega
        have ew : Hid (way z q n a = rest) := by show _ = _; rw [hway]; rfl
        have hlen : rest.length = n := by rw [← ew.out, way_len]
        rw [List.replicate_zero, List.nil_append] at hR
        have HL := Lib.hid hlen
        clear hway hlen
        go_wp2
        go_ret2
        rw [e1.out, e2.out, ew.out]
        exact ⟨some ⟨b, 0, none⟩, n, by rw [List.length_map, HL.out]; rfl, by rw [List.length_map, HL.out]; exact Ints.of_blk' hR (by rw [List.length_map, HL.out]), fun _ => ⟨b, rfl, by omega, hR⟩, hb⟩
end Go.Proofs.YtoiaggjjfahabaaDoor
