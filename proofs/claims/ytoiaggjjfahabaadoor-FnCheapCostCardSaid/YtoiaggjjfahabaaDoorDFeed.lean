/- What l20Feed returns: at most seven small numbers in new memory; of memory only the reader's block changes. No condition. -/
import Derived.Test.YtoiaggjjfahabaaDoorNews
namespace Go.Proofs.YtoiaggjjfahabaaDoor
open Go.RowKit
set_option linter.unusedVariables false
/-- the state of a drawn list of ints: n of them, in block g -/
def IS (w0 w : World) (r B n g c : Nat) (zs : List Int) : Prop :=
  RB w r B ∧ Stp r w0 w ∧ w.ownsRow w0.heap.size 3 1 (.slice (some ⟨g, 0, none⟩) n c) n (zs.map (Value.int .i64)) ∧ r < w0.heap.size ∧ zs.length = n ∧ (∀ z ∈ zs, Sm z) ∧ w0.heap.size ≤ g ∧ n ≤ c ∧ c ≤ maxLen
section
variable {w0 w w' : World} {r B B' n g c : Nat} {zs : List Int}
theorem IS.rb (h : IS w0 w r B n g c zs) : RB w r B := h.1
theorem IS.own (h : IS w0 w r B n g c zs) : w.ownsRow w0.heap.size 3 1 (.slice (some ⟨g, 0, none⟩) n c) n (zs.map (Value.int .i64)) := h.2.2.1
theorem IS.step (h : IS w0 w r B n g c zs) (hr : RB w' r B') (hs : Stp r w w') : IS w0 w' r B' n g c zs := ⟨hr, h.2.1.trans hs, ownsRow_stp (w0 := w0) h.2.2.1 hs h.2.2.2.1, h.2.2.2⟩
theorem IS.alloc (h : IS w0 w r B n g c zs) (o : Obj) : IS w0 (w.alloc o) r B n g c zs := h.step (h.1.alloc o) (Stp.of_below ((Below.refl _ _).alloc (Nat.le_refl _) o) (Nat.le_of_lt h.1.lt))
theorem IS.drew (h : IS w0 w r B n g c zs) : IS w0 w.drew r B n g c zs := h.step h.1.drew (Stp.drew' (Stp.refl _ _))
theorem IS.le (h : IS w0 w r B n g c zs) (hB : B ≤ B') : IS w0 w r B' n g c zs := ⟨h.1.le hB, h.2⟩
theorem IS.mk0 (hr : RB w r B) (hs : Stp r w0 w) (hl : r < w0.heap.size) : IS w0 (w.alloc (.cells #[] 3)) r B 0 w.heap.size 0 [] :=
  ⟨hr.alloc _, hs.trans (Stp.of_below ((Below.refl _ _).alloc (Nat.le_refl _) _) (Nat.le_of_lt hr.lt)), nw_new0 w _ _ _ hs.2.1, hl, rfl, by simp, hs.2.1, Nat.le_refl _, by simp [maxLen]⟩
theorem IS.app {w1 : World} {o : Obj} {v' : Value} {x : Int} (h : IS w0 w r B n g c zs) (ho : w1.ownsRow w0.heap.size 3 1 v' (n + 1) (zs.map (Value.int .i64) ++ [.int .i64 x])) (hg : (w.alloc o).grownBy w1 (Value.slice (some ⟨g, 0, none⟩) n c).ownBlock) (hx : Sm x) :
    ∃ g' c', v' = .slice (some ⟨g', 0, none⟩) (n + 1) c' ∧ IS w0 w1 r B (n + 1) g' c' (zs ++ [x]) := by
  obtain ⟨g', c', rfl, e1, e2, e3, e4⟩ := own_at ho (by omega)
  have ha := h.alloc o
  have hrow : ∀ q, (Value.slice (some ⟨g, 0, none⟩) n c).ownBlock = some q → w0.heap.size ≤ q := fun q hq => by have := h.2.2.2.2.2.2.1; simp [Value.ownBlock] at hq; omega
  refine ⟨g', c', rfl, ha.1.grown hg h.2.2.2.1 (Nat.le_trans h.2.1.2.1 (by simp)) hrow, ha.2.1.grown hg (Nat.le_of_lt h.2.2.2.1) hrow, by rw [List.map_append]; exact ho, h.2.2.2.1, by simp [h.2.2.2.2.1], fun z hz => ?_, e1, e3, e4⟩
  rcases List.mem_append.mp hz with hz | hz
  · exact h.2.2.2.2.2.1 z hz
  · simp at hz; subst hz; exact hx
theorem IS.ints (h : IS w0 w r B n g c zs) : Ints w (some ⟨g, 0, none⟩) n zs := own_ints1 h.own h.2.2.2.2.1
end
theorem own_put {w : World} {base n e g cap : Nat} {zs : List Int} (h : w.ownsRow base e 1 (.slice (some ⟨g, 0, none⟩) n cap) n (zs.map (Value.int .i64))) (hz : zs.length = n) {k : Nat} (hk : k < n) (v : Int) :
    Ints (w.setCell ⟨g, k, none⟩ (.int .i64 v)) (some ⟨g, 0, none⟩) n (zs.set k v) ∧ w.frozen? ⟨g, k, none⟩ = false ∧ w.cell? ⟨g, k, none⟩ = some (.int .i64 (zs.getD k 0)) ∧ base ≤ g ∧ g < w.heap.size := by
  have hc := h.cellAt k (by omega)
  obtain ⟨g', c', e1, hlo, hlt, _⟩ := own_at h (by omega)
  simp only [Value.slice.injEq, Option.some.injEq, Addr.mk.injEq, and_true, true_and] at e1
  obtain ⟨rfl, rfl⟩ := e1
  have hcell : w.cell? ⟨g, k, none⟩ = some (.int .i64 (zs.getD k 0)) := by
    rw [hc, List.getElem?_map, List.getElem?_eq_getElem (by omega), List.getD_eq_getElem?_getD, List.getElem?_eq_getElem (by omega)]; rfl
  rcases h.2 with ⟨_, h0⟩ | ⟨g1, c1, cur, e2, hb, hg, hcc, hm, hsz, htk⟩
  · omega
  · simp only [Value.slice.injEq, Option.some.injEq, Addr.mk.injEq, and_true, true_and] at e2
    obtain ⟨rfl, rfl⟩ := e2
    have hB : Blk w g e cur := hg
    refine ⟨⟨by simp [hz], fun _ => ⟨g, 0, rfl, by simpa [World.setCell] using hlt, fun j hj => ?_⟩⟩, hB.frozen k, hcell, hlo, hlt⟩
    have hj' := h.cellAt j (by omega)
    rw [hB.cell] at hj'
    have hk' := hc
    rw [hB.cell] at hk'
    rw [Nat.zero_add, (hB.set_ k (.int .i64 v)).cell, Array.getElem?_setIfInBounds, List.getD_eq_getElem?_getD, List.getElem?_set]
    by_cases e3 : k = j
    · subst e3
      rw [if_pos rfl, if_pos rfl]
      have : k < cur.size := by
        rcases Nat.lt_or_ge k cur.size with q | q
        · exact q
        · rw [Array.getElem?_eq_none q, List.getElem?_map, List.getElem?_eq_getElem (by omega)] at hk'; cases hk'
      have hks : k < zs.length := by omega
      simp [this, hks]
    · rw [if_neg e3, if_neg e3, hj', List.getElem?_map, List.getElem?_eq_getElem (by omega)]; rfl
theorem Ints.stp {w w' : World} {r b off n : Nat} {zs : List Int} (h : Ints w (some ⟨b, off, none⟩) n zs) (hs : Stp r w w') (hne : b ≠ r) : Ints w' (some ⟨b, off, none⟩) n zs := by
  refine ⟨h.1, fun hn => ?_⟩
  obtain ⟨b', o', e, hl, hc⟩ := h.2 hn
  simp only [Option.some.injEq, Addr.mk.injEq, and_true] at e
  obtain ⟨rfl, rfl⟩ := e
  exact ⟨b, off, rfl, Nat.lt_of_lt_of_le hl hs.2.1, fun k hk => (World.cell?_of_block (a := ⟨b, off + k, none⟩) (hs.2.2 b hne hl)).trans (hc k hk)⟩
theorem IS.ri {w0 w : World} {r B B' n g c : Nat} {zs : List Int} (h : IS w0 w r B n g c zs) (hm : n ≤ 7) (hB : B ≤ B') : RI w0 r B' (.returned (.slice (some ⟨g, 0, none⟩) n c)) w :=
  ⟨_, _, _, zs, rfl, fun w2 hs => own_ints1 (ownsRow_stp (w0 := w0) h.own hs h.2.2.2.1) h.2.2.2.2.1, hm, h.2.2.2.2.2.2.2.1, h.2.2.2.2.2.2.2.2, h.2.2.2.2.2.1, h.1.le hB, h.2.1⟩
set_option maxRecDepth 100000 in
set_option maxHeartbeats 4000000 in
theorem feed_ok (r : Nat) (u : Int) (B : Nat) (w : World) (h : RB w r B) (hB : B ≤ 700000000) (hu : -1000000 ≤ u) (hu2 : u ≤ 1000000) :
    Calls Tryd.prog 94 #[.pointer (some ⟨r, 0, none⟩), .int .i64 u] w (RI w r (B + 30)) := by
  have hlt := h.lt
  obtain ⟨i0, hi, ia, ib, ic⟩ := info_parts infoI
  have T : IS w _ r B 0 _ 0 [] := IS.mk0 h (Stp.refl r w) hlt
  clear h
  go_enter Tryd.func94, Tryd.ntmps94
  go_wp2_with (go_at_call 50; ((with_reducible refine (pk r _ _ _ (IS.rb T) ?_ ?_ ?_).mono ?_); (omega); (omega); (omega); rintro e w1 ⟨x1, rfl, y1, z1, hr, hs⟩; replace T := T.step hr hs; clear hr hs))
  have hx1 : x1 ≤ 7 := by omega
  clear z1
  generalize hX : 2 + x1 = X at *
  have hX1 : 2 ≤ X := by omega
  have hX2 : X ≤ 9 := by omega
  clear hX hx1 y1
  go_loopw [5, 7] (fun v i wr => ∃ (zs : List Int) (j g c : Nat), i = .int .i64 j ∧ j ≤ 6 ∧ v = .slice (some ⟨g, 0, none⟩) j c ∧ IS w wr r (B + 1 + j) j g c zs) (fun _ i _ => 6 - (intOf i).toNat)
  case atStart => exact ⟨[], 0, _, _, rfl, by omega, rfl, T.le (by omega)⟩
  case round =>
    clear T
    obtain ⟨zs, j, g, c, rfl, hj, rfl, T⟩ := hrel
    have hgc := T.2.2.2.2.2.2
    have hsz := T.2.1.2.1
    by_cases hj6 : j < 6
    · go_wp2_with (first
        | (go_at_call 50; ((with_reducible refine (pk _ _ _ _ (IS.rb T) ?_ ?_ ?_).mono ?_); (omega); (omega); (omega); rintro e w5 ⟨x5, rfl, y5, z5, hr, hs⟩; have T5 := T.step hr hs; clear hr hs T; have hsz2 := T5.2.1.2.1))
        | (at_builtin; refine wpList_append_own _ rfl _ _ 28 rfl w.heap.size 3 i0 (.int .i64 0) 1 8 Tryd.underlying28 hi ia ib ic rfl (by decide) _ _ _ rfl (IS.own (IS.alloc T5 _)) ⟨w5.heap.size, 0, none⟩ 1 1 [.int .i64 x5] rfl rfl ?c1 ?c2 ?c3 ?c4 ?c5 ?_))
      case c1 => exact cell_one_new _ _ _
      case c2 => simp [Value.oneCell']
      case c3 => unfold maxLen; omega
      case c4 => omega
      case c5 => simp; omega
      intro v' w7 hown1 hgrow _
      obtain ⟨g', c', rfl, T'⟩ := T5.app hown1 hgrow (by unfold Sm; omega)
      clear hown1 hgrow
      go_wp2
      go_roundw
      case rel => exact ⟨_, j + 1, g', c', by go_num, by omega, rfl, T'.le (by omega)⟩
      case measure => simp [intOf]; omega
    · obtain rfl : j = 6 := by omega
      clear hj6 hj
      go_upto_if 24 with (go_at_call 101; ((with_reducible refine (od _ _ _ _ (IS.rb T) ?_ ?_ ?_).mono ?_); (omega); (omega); (omega); rintro e w6 ⟨o, rfl, _, hr, hs⟩; have T6 := T.step hr hs; clear hr hs T; have hsz2 := T6.2.1.2.1))
      cases o
      · go_wp2_with fail
        go_ret
        exact T6.ri (by omega) (by omega)
      · go_upto_if 34 with (go_at_call 50; ((with_reducible refine (pk _ _ _ _ (IS.rb T6) ?_ ?_ ?_).mono ?_); (omega); (omega); (omega); rintro e w5 ⟨x5, rfl, y5, z5, hr, hs⟩; have T5 := T6.step hr hs; clear hr hs T6; have hsz3 := T5.2.1.2.1))
        by_cases h0 : x5 = 0
        · have hb0 : (x5 == 0) = true := by simp [h0]
          go_wp2_with (at_builtin; refine wpList_append_own _ rfl _ _ 28 rfl w.heap.size 3 i0 (.int .i64 0) 1 8 Tryd.underlying28 hi ia ib ic rfl (by decide) _ _ _ rfl (IS.own (IS.alloc T5 _)) ⟨w5.heap.size, 0, none⟩ 1 1 [.int .i64 0] rfl rfl ?c1 ?c2 ?c3 ?c4 ?c5 ?_)
          case c1 => exact cell_one_new _ _ _
          case c2 => simp [Value.oneCell']
          case c3 => unfold maxLen; omega
          case c4 => omega
          case c5 => simp; omega
          intro v' w7 hown1 hgrow _
          obtain ⟨g', c', rfl, T'⟩ := T5.app hown1 hgrow (by unfold Sm; omega)
          clear hown1 hgrow
          go_wp2
          go_ret
          exact T'.ri (by omega) (by omega)
        · have hb0 : (x5 == 0) = false := by simp [h0]
          by_cases h1 : x5 = 1
          · have hb1 : (x5 == 1) = true := by simp [h1]
            have hc1 : ¬ c = 1 := by omega
            clear h0 h1
            go_wp2_with fail
            go_ret
            refine ⟨some ⟨g, 1, none⟩, 5, c - 1, zs.drop 1, rfl, fun w2 hs => ?_, by omega, by omega, by omega, fun z hz => T5.2.2.2.2.2.1 z (List.mem_of_mem_drop hz), T5.1.le (by omega), T5.2.1⟩
            have := (T5.ints.stp hs (by have := T5.2.2.2.1; omega)).drop (k := 1) (by omega)
            simpa using this
          · have hb1 : (x5 == 1) = false := by simp [h1]
            clear h0 h1
            go_wp2_with (go_at_call 50; ((with_reducible refine (pk r _ _ _ (IS.rb (IS.alloc T5 (.cells #[.int .i64 (-1), .int .i64 31] 3))) ?_ ?_ ?_).mono ?_); (omega); (omega); (omega); rintro e w7 ⟨x7, rfl, y7, z7, hr, hs⟩; have T' := (T5.alloc _).step hr hs; have hl6 := T5.1.lt; obtain ⟨q, hq, hx, hx'⟩ := two_of (hs.blk (Blk.new w5 3 #[.int .i64 (-1), .int .i64 31]) (by omega)) y7 (by omega); clear hr hs; obtain ⟨P, pf, pc, pg, pl⟩ := own_put T'.own T'.2.2.2.2.1 (k := 0) (by omega) q))
            all_goals (
              go_ret
              have hq2 : Sm q := by rcases hq with rfl | rfl <;> (unfold Sm; omega)
              have hsm : ∀ z ∈ zs.set 0 q, Sm z := fun z hz => (List.mem_or_eq_of_mem_set hz).elim (fun h => T'.2.2.2.2.2.1 z h) (fun h => by rw [h]; exact hq2)
              have hrg : r < g := by have := T'.2.2.2.1; omega
              exact ⟨some ⟨g, 0, none⟩, 6, c, zs.set 0 q, rfl, fun w2 hs => P.stp hs (by omega), by omega, by omega, by omega, hsm, (T'.1.far hrg 0 _).le (by omega), T'.2.1.far (by omega) (by omega) 0 _⟩)
end Go.Proofs.YtoiaggjjfahabaaDoor
