/- l6Put: what it computes. Condition: short lists in slices that are not nil. -/
import Derived.Test.YtoiaggjjfahabaaDkD
namespace Go.Proofs.Ytoiaggjjfahabaa
open Go.RowKit
set_option linter.unusedVariables false
/-- a list of bookings of the call's own -/
def PK (w0 w : World) (v : Value) (n : Nat) (qs : List Quad) : Prop :=
  Below w0.heap.size w0 w ∧ w.ownsRow w0.heap.size 46 4 v n (qs.flatMap Quad.cells) ∧ qs.length = n
theorem PK.app {w0 w w1 : World} {v v' : Value} {n : Nat} {qs : List Quad} {o : Obj} {q : Quad} (h : PK w0 w v n qs) (ho : w1.ownsRow w0.heap.size 46 4 v' (n + 1) (qs.flatMap Quad.cells ++ q.cells)) (hg : (w.alloc o).grownBy w1 v.ownBlock) : PK w0 w1 v' (n + 1) (qs ++ [q]) := by
  have hsz := h.1.size
  refine ⟨(h.1.alloc hsz o).grown hg (by simp; omega) (fun q hq => (h.2.1.lt q hq).1), by rw [List.flatMap_append]; simpa using ho, by simp [h.2.2]⟩
theorem books_drop {w : World} {b off n k : Nat} {qs : List Quad} (h : Books w (some ⟨b, off, none⟩) n qs) (hk : k ≤ n) : Books w (some ⟨b, off + k * 4, none⟩) (n - k) (qs.drop k) := by
  refine ⟨by rw [List.length_drop, h.1], fun hn => ?_⟩
  obtain ⟨b', o', e, hl, hc⟩ := h.2 (by omega)
  simp only [Option.some.injEq, Addr.mk.injEq, and_true] at e
  obtain ⟨rfl, rfl⟩ := e
  refine ⟨b, _, rfl, hl, fun j hj => ?_⟩
  have e1 : (qs.drop k).getD j q0 = qs.getD (k + j) q0 := by rw [List.getD_eq_getElem?_getD, List.getElem?_drop, ← List.getD_eq_getElem?_getD]
  rw [e1]
  obtain ⟨c0, c1, c2, c3⟩ := hc (k + j) (by omega)
  rw [show off + (k + j) * 4 = off + k * 4 + j * 4 by omega] at c0 c1 c2 c3
  exact ⟨c0, c1, c2, c3⟩
set_option maxRecDepth 100000 in
set_option maxHeartbeats 4000000 in
theorem l6Put_s (pb po n : Nat) (ts : List Quad) (a b c d : Int) (w : World) (hA : Books w (some ⟨pb, po, none⟩) n ts) (hn : n ≤ 9) :
    Calls Try.prog 44 #[.slice (some ⟨pb, po, none⟩) n n, .agg #[.int .i64 a, .int .i64 b, .int .i64 c, .int .i64 d]] w fun e w' => ∃ g cc, e = .returned (.slice (some ⟨g, 0, none⟩) (n + 1) cc) ∧ w.heap.size ≤ g ∧ Rq w' g (n + 1) (putV ts ⟨a, b, c, d⟩) ∧ Below w.heap.size w w' := by
  obtain ⟨i0, hi, ia, ib, ic⟩ := info_parts infoBk2
  have hb0 : Below w.heap.size w (w.alloc (.cells #[.int .i64 a, .int .i64 b, .int .i64 c, .int .i64 d] 46)) := (Below.refl _ _).alloc (Nat.le_refl _) _
  have bX := Blk.new w 46 #[.int .i64 a, .int .i64 b, .int .i64 c, .int .i64 d]
  have hl := hA.1
  go_enter Try.func44, Try.ntmps44
  go_upto_region 1 with fail
  generalize (w.alloc (.cells #[.int .i64 a, .int .i64 b, .int .i64 c, .int .i64 d] 46)) = W at *
  have T : PK W (W.alloc (.cells #[] 46)) (.slice (some ⟨W.heap.size, 0, none⟩) 0 0) 0 [] := ⟨(Below.refl _ _).alloc (Nat.le_refl _) _, o_new0 W W.heap.size 46 4 (Nat.le_refl _), rfl⟩
  have HA := Lib.hid hA
  have HW := Lib.hid hb0
  have HX := Lib.hid bX
  have lW := bX.lt
  clear hA hb0 bX
  go_wp2
  go_loopw [5, 6] (fun v i wr => ∃ k : Nat, i = .int .i64 k ∧ k ≤ n ∧ (∀ j, j < k → (ts.getD j q0).a < a) ∧ PK W wr v k (ts.take k)) (fun _ i _ => n - (intOf i).toNat)
  case atStart => exact ⟨0, rfl, by omega, fun j hj => absurd hj (by omega), T⟩
  case round =>
    clear T
    obtain ⟨k, rfl, hk, hlo, T⟩ := hrel
    have bX := HX.out.below T.1 lW
    have x0 := bX.cell 0
    have x1 := bX.cell 1
    have x2 := bX.cell 2
    have x3 := bX.cell 3
    simp at x0 x1 x2 x3
    have HL := Lib.hid hlo
    clear hlo bX
    by_cases hlt : k < n
    · obtain ⟨b', o', e, hbl, hc⟩ := (HA.out.below (bt HW.out T.1)).2 (by omega)
      simp only [Option.some.injEq, Addr.mk.injEq, and_true] at e
      obtain ⟨rfl, rfl⟩ := e
      obtain ⟨r0, r1, r2, r3⟩ := hc k hlt
      have i1 : (0 : Int) ≤ (k : Int) := by omega
      have i2 : (k : Int) < (n : Int) := by omega
      have e1 : ts.take (k + 1) = ts.take k ++ [ts.getD k q0] := by rw [List.take_succ_eq_append_getElem (by omega), getD_get0 ts k (by omega)]
      by_cases hq : (ts.getD k q0).a < a
      · have c1 : decide ((ts.getD k q0).a < a) = true := by simpa using hq
        have HN := Lib.hid (fun j (hj : j < k + 1) => show (ts.getD j q0).a < a by rcases Nat.lt_or_ge j k with g | g; exact HL.out j g; obtain rfl : j = k := (by omega); exact hq)
        have HE := Lib.hid e1
        generalize ts.getD k q0 = q at *
        clear hq e1 hc
        go_wp2
        go_quiet (fail)
        have T2 := show PK W (wr.drewN nq) _ k (ts.take k) from ⟨bdN T.1 _, T.2.1, T.2.2⟩
        go_wp2_with (at_builtin; refine wpList_append_own _ rfl _ _ 26 rfl W.heap.size 46 i0 (.agg #[.int .i64 0, .int .i64 0, .int .i64 0, .int .i64 0]) 4 32 Try.underlying26 hi ia ib ic rfl (by decide) _ _ _ rfl (T2.2.1.alloc _) ⟨wr.heap.size, 0, none⟩ 1 1 (Quad.cells q) rfl rfl (o_cells (wr.drewN nq) _ q) ?c2 ?c3 ?c4 ?c5 ?_)
        case c2 => simp [Quad.cells, Value.oneCell']
        case c3 => unfold maxLen; omega
        case c4 => omega
        case c5 => exact Nat.le_trans T.1.size (by simp)
        intro v' w1 hown1 hgrow _
        have T' := T2.app hown1 hgrow
        clear hown1 hgrow T T2 x0 x1 x2 x3 r0 r1 r2 r3
        go_wp2
        go_roundw
        case rel => exact ⟨k + 1, by go_num, hlt, fun j hj => HN.out j hj, by rw [HE.out]; exact T'⟩
        case measure => simp [intOf]; omega
      · have c1 : decide ((ts.getD k q0).a < a) = false := by simpa using hq
        have HP := Lib.hid (put_cut ts ⟨a, b, c, d⟩ k HL.out (by omega) (.inr hq))
        generalize (ts.getD k q0).a = qa at *
        clear hq e1 hc r1 r2 r3
        go_wp2
        go_quiet (fail)
        have T2 := show PK W (wr.drewN nq) _ k (ts.take k) from ⟨bdN T.1 _, T.2.1, T.2.2⟩
        replace x0 := show (wr.drewN nq).cell? ⟨w.heap.size, 0, none⟩ = some (.int .i64 a) from x0
        replace x1 := show (wr.drewN nq).cell? ⟨w.heap.size, 1, none⟩ = some (.int .i64 b) from x1
        replace x2 := show (wr.drewN nq).cell? ⟨w.heap.size, 2, none⟩ = some (.int .i64 c) from x2
        replace x3 := show (wr.drewN nq).cell? ⟨w.heap.size, 3, none⟩ = some (.int .i64 d) from x3
        clear T r0
        have NW := Lib.hid (fun w' (hb : Below w.heap.size w w') => books_news2 (books_drop (HA.out.below hb) hk))
        have i3 : (k : Int) ≤ (n : Int) := by omega
        have i4 : ¬ n = k := by omega
        go_upto_region 6 with fail
        generalize (wr.drewN nq) = w2 at *
        have B0 := T2.1
        have lx : w.heap.size < w2.heap.size := Nat.lt_of_lt_of_le lW B0.size
        have sz := B0.size
        have E0 := show World.ownsRow (w2.alloc (.cells #[.int .i64 a, .int .i64 b, .int .i64 c, .int .i64 d] 46)).drew W.heap.size 46 4 _ k ((ts.take k).flatMap Quad.cells) from T2.2.1.alloc _
        have N0 : ∀ j u, [Value.int .i64 a, .int .i64 b, .int .i64 c, .int .i64 d][j]? = some u → World.cell? (w2.alloc (.cells #[.int .i64 a, .int .i64 b, .int .i64 c, .int .i64 d] 46)).drew ((⟨w2.heap.size, 0, none⟩ : Addr).add j) = some u := cellsQn w2 _ a b c d
        have D0 : Below W.heap.size w2 (w2.alloc (.cells #[.int .i64 a, .int .i64 b, .int .i64 c, .int .i64 d] 46)).drew := ((Below.refl W.heap.size w2).alloc B0.size _).drew
        go_region_held3 (fun w' => Below (W.heap.size) (w2) w' ∧ ∀ k o, k < W.heap.size → w'.cell? ⟨k, o, none⟩ = World.cell? (w2) ⟨k, o, none⟩) (first | (first | assumption | exact kp_start | (refine kp_step ?_ hb ?_; assumption; (first | omega | (simp; done) | (simp; omega))) | (refine kp_drew ?_; assumption) | (refine kp_drew (kp_of hb ?_); (first | omega | (simp; done) | (simp; omega)))) | exact ⟨D4, fun k o hk => D4.cell (p := ⟨k, o, none⟩) hk⟩ | exact ⟨D3, fun k o hk => D3.cell (p := ⟨k, o, none⟩) hk⟩ | exact kp_drew (kp_alloc ⟨Below.refl _ _, fun _ _ _ => rfl⟩ (by omega) _) | (refine kp_alloc ?_ ?_ _; (assumption); (omega))) (first
          | (refine step_append_fresh (by rfl) (.tmp 31) (.tmp 33) 26 rfl W.heap.size 46 i0 (.agg #[.int .i64 0, .int .i64 0, .int .i64 0, .int .i64 0]) 4 32 Try.underlying26 hi ia ib ic rfl (by decide) _ k ((ts.take k).flatMap Quad.cells) (by rfl) E0 ⟨w2.heap.size, 0, none⟩ 1 1 [.int .i64 a, .int .i64 b, .int .i64 c, .int .i64 d] (by rfl) ?_ ?_ ?_ ?_ ?_ ?_ ?_; (rfl); (exact N0); (exact oneQ a b c d); (unfold maxLen; omega); (omega); (exact Nat.le_trans B0.size D0.size); (intro v1 w3 hown hgrow _; have D3 : Below W.heap.size w2 w3 := D0.grown hgrow (Nat.le_trans B0.size D0.size) (fun q hq => (T2.2.1.lt q hq).1); have B3 := B0.trans D3))
          | (refine step_append_fresh (by rfl) (.tmp 34) (.tmp 37) 26 rfl W.heap.size 46 i0 (.agg #[.int .i64 0, .int .i64 0, .int .i64 0, .int .i64 0]) 4 32 Try.underlying26 hi ia ib ic rfl (by decide) v1 (k + 1) ((ts.take k).flatMap Quad.cells ++ [.int .i64 a, .int .i64 b, .int .i64 c, .int .i64 d]) (by rfl) hown ⟨pb, po + k * 4, none⟩ (n - k) (n - k) ((ts.drop k).flatMap Quad.cells) (by rfl) ?_ ?_ ?_ ?_ ?_ ?_ ?_; (rw [len_cells2, List.length_drop, hl]); (exact NW.out _ (bt HW.out B3)); (exact one_cells2 _); (unfold maxLen; omega); (omega); (exact B3.size); (intro v2 w4 hown2 hgrow2 _; have D4 : Below W.heap.size w2 w4 := D3.grown hgrow2 B3.size (fun q hq => (hown.lt q hq).1); have B4 := B0.trans D4)))
        all_goals
          have ho : w4.ownsRow W.heap.size 46 4 v2 (n + 1) ((putV ts ⟨a, b, c, d⟩).flatMap Quad.cells) := by
            rw [HP.out, List.flatMap_append, List.flatMap_append]
            have h := hown2
            rw [show k + 1 + (n - k) = n + 1 by omega] at h
            exact h
          obtain ⟨G, cc, rfl, _, _, hG⟩ := own_b ho (by rw [put_len, hl])
          rcases hG.2 with ⟨_, q⟩ | ⟨g, rfl, hg, _, hR⟩
          · exact absurd q (by omega)
          have HF := Lib.hid hR
          have H4 := Lib.hid (bt HW.out B4)
          have H5 := Lib.hid (Nat.le_trans HW.out.size hg)
          clear ho hown hown2 hgrow hgrow2 hG hR hg T2 E0 N0 D0 D3 D4 B3 B4 B0
          go_wp2
          go_ret
          exact ⟨g, cc, rfl, H5.out, HF.out, H4.out⟩
    · obtain rfl : k = n := by omega
      have HP := Lib.hid (put_cut ts ⟨a, b, c, d⟩ k HL.out (by omega) (.inl hl.symm))
      have c0 : decide ((k : Int) < (k : Int)) = false := by simp
      go_wp2
      go_quiet (fail)
      have T2 := show PK W (wr.drewN nq) _ k (ts.take k) from ⟨bdN T.1 _, T.2.1, T.2.2⟩
      replace x0 := show (wr.drewN nq).cell? ⟨w.heap.size, 0, none⟩ = some (.int .i64 a) from x0
      replace x1 := show (wr.drewN nq).cell? ⟨w.heap.size, 1, none⟩ = some (.int .i64 b) from x1
      replace x2 := show (wr.drewN nq).cell? ⟨w.heap.size, 2, none⟩ = some (.int .i64 c) from x2
      replace x3 := show (wr.drewN nq).cell? ⟨w.heap.size, 3, none⟩ = some (.int .i64 d) from x3
      clear T
      go_upto_region 6 with fail
      generalize (wr.drewN nq) = w2 at *
      have B0 := T2.1
      have lx : w.heap.size < w2.heap.size := Nat.lt_of_lt_of_le lW B0.size
      have sz := B0.size
      have E0 := show World.ownsRow (w2.alloc (.cells #[.int .i64 a, .int .i64 b, .int .i64 c, .int .i64 d] 46)).drew W.heap.size 46 4 _ k ((ts.take k).flatMap Quad.cells) from T2.2.1.alloc _
      have N0 : ∀ j u, [Value.int .i64 a, .int .i64 b, .int .i64 c, .int .i64 d][j]? = some u → World.cell? (w2.alloc (.cells #[.int .i64 a, .int .i64 b, .int .i64 c, .int .i64 d] 46)).drew ((⟨w2.heap.size, 0, none⟩ : Addr).add j) = some u := cellsQn w2 _ a b c d
      have D0 : Below W.heap.size w2 (w2.alloc (.cells #[.int .i64 a, .int .i64 b, .int .i64 c, .int .i64 d] 46)).drew := ((Below.refl W.heap.size w2).alloc B0.size _).drew
      go_region_held3 (fun w' => Below (W.heap.size) (w2) w' ∧ ∀ k o, k < W.heap.size → w'.cell? ⟨k, o, none⟩ = World.cell? (w2) ⟨k, o, none⟩) (first | (first | assumption | exact kp_start | (refine kp_step ?_ hb ?_; assumption; (first | omega | (simp; done) | (simp; omega))) | (refine kp_drew ?_; assumption) | (refine kp_drew (kp_of hb ?_); (first | omega | (simp; done) | (simp; omega)))) | exact ⟨D4, fun k o hk => D4.cell (p := ⟨k, o, none⟩) hk⟩ | exact ⟨D3, fun k o hk => D3.cell (p := ⟨k, o, none⟩) hk⟩ | exact kp_drew (kp_alloc ⟨Below.refl _ _, fun _ _ _ => rfl⟩ (by omega) _) | (refine kp_alloc ?_ ?_ _; (assumption); (omega))) (first
        | (refine step_append_fresh (by rfl) (.tmp 31) (.tmp 33) 26 rfl W.heap.size 46 i0 (.agg #[.int .i64 0, .int .i64 0, .int .i64 0, .int .i64 0]) 4 32 Try.underlying26 hi ia ib ic rfl (by decide) _ k ((ts.take k).flatMap Quad.cells) (by rfl) E0 ⟨w2.heap.size, 0, none⟩ 1 1 [.int .i64 a, .int .i64 b, .int .i64 c, .int .i64 d] (by rfl) ?_ ?_ ?_ ?_ ?_ ?_ ?_; (rfl); (exact N0); (exact oneQ a b c d); (unfold maxLen; omega); (omega); (exact Nat.le_trans B0.size D0.size); (intro v1 w3 hown hgrow _; have D3 : Below W.heap.size w2 w3 := D0.grown hgrow (Nat.le_trans B0.size D0.size) (fun q hq => (T2.2.1.lt q hq).1); have B3 := B0.trans D3))
        | (refine step_append_fresh (by rfl) (.tmp 34) (.tmp 37) 26 rfl W.heap.size 46 i0 (.agg #[.int .i64 0, .int .i64 0, .int .i64 0, .int .i64 0]) 4 32 Try.underlying26 hi ia ib ic rfl (by decide) v1 (k + 1) ((ts.take k).flatMap Quad.cells ++ [.int .i64 a, .int .i64 b, .int .i64 c, .int .i64 d]) (by rfl) hown ⟨pb, po, none⟩ 0 0 [] (by rfl) ?_ ?_ ?_ ?_ ?_ ?_ ?_; (rfl); (intro j u hj; simp at hj); (intro u hu; cases hu); (unfold maxLen; omega); (omega); (exact B3.size); (intro v2 w4 hown2 hgrow2 _; have D4 : Below W.heap.size w2 w4 := D3.grown hgrow2 B3.size (fun q hq => (hown.lt q hq).1); have B4 := B0.trans D4)))
      all_goals
        have ho : w4.ownsRow W.heap.size 46 4 v2 (k + 1) ((putV ts ⟨a, b, c, d⟩).flatMap Quad.cells) := by
          rw [HP.out, List.flatMap_append, List.flatMap_append]
          have h := hown2
          rw [List.drop_of_length_le (by omega)]
          exact h
        obtain ⟨G, cc, rfl, _, _, hG⟩ := own_b ho (by rw [put_len, hl])
        rcases hG.2 with ⟨_, q⟩ | ⟨g, rfl, hg, _, hR⟩
        · exact absurd q (by omega)
        have HF := Lib.hid hR
        have H4 := Lib.hid (bt HW.out B4)
        have H5 := Lib.hid (Nat.le_trans HW.out.size hg)
        clear ho hown hown2 hgrow hgrow2 hG hR hg T2 E0 N0 D0 D3 D4 B3 B4 B0
        go_wp2
        go_ret
        exact ⟨g, cc, rfl, H5.out, HF.out, H4.out⟩
end Go.Proofs.Ytoiaggjjfahabaa
