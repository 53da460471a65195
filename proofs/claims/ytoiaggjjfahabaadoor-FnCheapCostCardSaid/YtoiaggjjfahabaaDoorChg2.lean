/- Rows of ints; cutOf and leastCut: what they compute. Conditions: six rates a car, six hours, small numbers. -/
import Derived.Test.YtoiaggjjfahabaaDoorChg1
import Derived.Laws.Shifts
namespace Go.Proofs.YtoiaggjjfahabaaDoor
open Go.RowKit
set_option linter.unusedVariables false
/-- the slice (A, n) reads as rows of ints -/
def Tabs (w : World) (A : Option Addr) (n : Nat) (rss : List (List Int)) : Prop :=
  rss.length = n ∧ (0 < n → ∃ b off, A = some ⟨b, off, none⟩ ∧ b < w.heap.size ∧ ∀ k, k < n → ∃ Ak ck, w.cell? ⟨b, off + k, none⟩ = some (.slice Ak (rss.getD k []).length ck) ∧ (rss.getD k []).length ≤ ck ∧ Ints w Ak (rss.getD k []).length (rss.getD k []))
theorem Tabs.below {w w' : World} {A : Option Addr} {n : Nat} {rss : List (List Int)} (h : Tabs w A n rss) (hb : Below w.heap.size w w') : Tabs w' A n rss :=
  ⟨h.1, fun hn => by
    obtain ⟨b, off, rfl, hlt, hc⟩ := h.2 hn
    refine ⟨b, off, rfl, Nat.lt_of_lt_of_le hlt hb.size, fun k hk => ?_⟩
    obtain ⟨Ak, ck, h1, h2, h3⟩ := hc k hk
    exact ⟨Ak, ck, (hb.cell (p := ⟨b, off + k, none⟩) hlt).trans h1, h2, h3.below hb⟩⟩
theorem shl_one (k : Nat) (hk : k ≤ 40) : IntKind.i64.wrap (2 ^ min k 64) = ((2 ^ k : Nat) : Int) := by
  rw [Nat.min_eq_left (by omega)]
  have h1 : 2 ^ k ≤ 2 ^ 40 := Nat.pow_le_pow_right (by omega) hk
  have e : (2 : Int) ^ k = ((2 ^ k : Nat) : Int) := by rw [Int.natCast_pow]; rfl
  rw [e]
  generalize 2 ^ k = P at h1
  exact IntWalk.i64_in _ (by constructor <;> omega)
theorem nat_and_bit (s k : Nat) : s &&& 2 ^ k = if s.testBit k = true then 2 ^ k else 0 := by
  apply Nat.eq_of_testBit_eq
  intro j
  rw [Nat.testBit_and, Nat.testBit_two_pow]
  by_cases e : k = j
  · subst e
    cases h : s.testBit k <;> simp
  · have e2 : decide (k = j) = false := by simpa using e
    rw [e2, Bool.and_false]
    split
    · rw [Nat.testBit_two_pow, e2]
    · simp
theorem and_bit (s k : Nat) (hs : s < 1048576) (hk : k ≤ 40) : bits .and .i64 (s : Int) ((2 ^ k : Nat) : Int) = if s.testBit k = true then ((2 ^ k : Nat) : Int) else 0 := by
  have h1 : 2 ^ k ≤ 2 ^ 40 := Nat.pow_le_pow_right (by omega) hk
  have hb := nat_and_bit s k
  generalize 2 ^ k = P at h1 hb
  have e1 : (BitVec.ofInt 64 (s : Int)).toNat = s := by
    rw [BitVec.ofInt_natCast, BitVec.toNat_ofNat]; exact Nat.mod_eq_of_lt (by omega)
  have e2 : (BitVec.ofInt 64 (P : Int)).toNat = P := by
    rw [BitVec.ofInt_natCast, BitVec.toNat_ofNat]; exact Nat.mod_eq_of_lt (by omega)
  have e : bits .and .i64 (s : Int) (P : Int) = IntKind.i64.wrap ((s &&& P : Nat) : Int) := by
    show IntKind.i64.wrap ((BitVec.ofInt 64 (s : Int) &&& BitVec.ofInt 64 (P : Int)).toNat : Int) = _
    rw [BitVec.toNat_and, e1, e2]
  rw [e, hb]
  split
  · exact IntWalk.i64_in _ (by constructor <;> omega)
  · rfl
theorem test_and (s k : Nat) (hs : s < 1048576) (hk : k ≤ 40) : (bits .and .i64 (s : Int) (wrap64 (2 ^ k)) != 0) = s.testBit k ∧ (bits .and .i64 (s : Int) (wrap64 (2 ^ k)) == 0) = !s.testBit k := by
  have e : wrap64 ((2 : Int) ^ k) = ((2 ^ k : Nat) : Int) := by
    have := shl_one k hk
    rw [Nat.min_eq_left (by omega)] at this
    rw [← IntWalk.i64_left]; exact this
  rw [e, and_bit s k hs hk]
  have h0 := Nat.two_pow_pos k
  generalize 2 ^ k = P at h0
  cases s.testBit k
  · simp
  · have h : (P : Int) ≠ 0 := by omega
    simp
    omega
theorem shr_bit (s k : Nat) (hk : k ≤ 40) : Int.tmod ((s : Int) / 2 ^ min k 64) 2 = if s.testBit k = true then 1 else 0 := by
  rw [Nat.min_eq_left (by omega)]
  have e : (s : Int) / 2 ^ k = ((s / 2 ^ k : Nat) : Int) := by rw [Int.natCast_ediv, Int.natCast_pow]; rfl
  rw [e, Nat.testBit_eq_decide_div_mod_eq]
  generalize s / 2 ^ k = Q
  rw [Int.tmod_eq_emod_of_nonneg (by omega)]
  by_cases h : Q % 2 = 1
  · simp only [h, decide_true, if_true]; omega
  · simp only [h, decide_false]; simp; omega
def Bd (zs : List Int) : Prop := ∀ k : Nat, 0 ≤ zs.getD k 0 ∧ zs.getD k 0 ≤ 1000
theorem cFeed_bd {cs : List Int} (h : Bd cs) (s n : Nat) : 0 ≤ cFeed cs s n ∧ cFeed cs s n ≤ 1000 * n := by
  induction n with
  | zero => simp [cFeed]
  | succ n ih => have := h n; unfold cFeed; split <;> omega
theorem cRate_bd {cs : List Int} (h : Bd cs) (s n : Nat) : 0 ≤ cRate cs s n ∧ cRate cs s n ≤ 1000 * n := by
  induction n with
  | zero => simp [cRate]
  | succ n ih => have := h n; unfold cRate; split <;> omega
theorem cCars_bd {us : List Int} {rss : List (List Int)} (h : Bd us) (hr : ∀ k, Bd (rss.getD k [])) (s n : Nat) : 0 ≤ cCars us rss s n ∧ cCars us rss s n ≤ 1000 * n := by
  induction n with
  | zero => simp [cCars]
  | succ n ih => have := h n; have := cRate_bd (hr n) s 6; unfold cCars; omega
set_option maxHeartbeats 1000000 in
theorem cutOf_i (A R C : Option Addr) (n c1 c2 c3 : Nat) (us : List Int) (rss : List (List Int)) (cs : List Int) (s : Nat) (w : World) (hA : Ints w A n us) (hR : Tabs w R n rss) (hC : Ints w C 6 cs) (hn : n ≤ 100) (hl : ∀ k, k < n → (rss.getD k []).length = 6) (bu : Bd us) (br : ∀ k, Bd (rss.getD k [])) (bc : Bd cs) (hs : s < 64) :
    Calls Tryd.prog 99 #[.slice A n c1, .slice R n c2, .slice C 6 c3, .int .i64 s] w fun e w' => e = .returned (.int .i64 (cutV us rss cs s)) ∧ Below w.heap.size w w' := by
  go_enter Tryd.func99, Tryd.ntmps99
  go_wp2
  go_loopw [9, 19] (fun v i wr => ∃ k : Nat, k ≤ 6 ∧ i = .int .i64 k ∧ v = .int .i64 (cFeed cs s k) ∧ Below w.heap.size w wr) (fun _ i _ => 6 - (intOf i).toNat)
  case atStart => exact ⟨0, by omega, rfl, rfl, by (repeat (first | exact Below.refl _ _ | assumption | refine Below.alloc ?_ (by first | omega | (simp; done) | (simp; omega)) _ | refine Below.drew ?_ | refine bdN ?_ _ | refine Below.setCell ?_ (by first | omega | (simp; done) | (simp; omega)) _))⟩
  case round =>
    obtain ⟨k, hk, rfl, rfl, hb⟩ := hrel
    by_cases hlt : k < 6
    · obtain ⟨b, off, rfl, hbl, hc⟩ := hC.2 (by omega)
      have c1 : wr.cell? ⟨b, off + k, none⟩ = some (.int .i64 (cs.getD k 0)) := (hb.cell (p := ⟨b, off + k, none⟩) hbl).trans (hc k hlt)
      have bd := cFeed_bd bc s k
      have bk := bc k
      have hs1 := show cFeed cs s (k + 1) = cFeed cs s k + (if s.testBit k then cs.getD k 0 else 0) from rfl
      generalize cFeed cs s k = F at *
      generalize cs.getD k 0 = z at *
      have an := (test_and s k (by omega) (by omega)).1
      clear hc
      have HB := Lib.hid hb
      clear hb
      cases hbit : s.testBit k
      · rw [hbit] at hs1 an
        simp at hs1
        have HS := Lib.hid hs1
        clear hs1
        go_wp2
        go_roundw
        case rel => exact ⟨k + 1, hlt, by go_num, by rw [HS.out], HB.out⟩
        case measure => simp [intOf]; omega
      · rw [hbit] at hs1 an
        simp at hs1
        have HS := Lib.hid hs1
        clear hs1
        go_wp2
        go_roundw
        case rel => exact ⟨k + 1, hlt, by go_num, by rw [HS.out], HB.out⟩
        case measure => simp [intOf]; omega
    · obtain rfl : k = 6 := by omega
      have HB := Lib.hid hb
      clear hb
      obtain ⟨F, hF⟩ : ∃ F, cFeed cs s 6 = F := ⟨_, rfl⟩
      have F6 := cFeed_bd bc s 6
      rw [hF] at F6 ⊢
      have HF := Lib.hid hF
      clear hF
      go_wp2
      go_loopw [9, 35] (fun v i wx => ∃ k : Nat, k ≤ n ∧ i = .int .i64 k ∧ v = .int .i64 (F + cCars us rss s k) ∧ Below w.heap.size w wx) (fun _ i _ => n - (intOf i).toNat)
      case atStart => exact ⟨0, by omega, rfl, by simp [cCars], HB.out⟩
      case round =>
        clear HB
        obtain ⟨k, hk, rfl, rfl, hb⟩ := hrel
        by_cases hlt : k < n
        · obtain ⟨b, off, rfl, hbl, hc⟩ := hA.2 (by omega)
          have d1 : wr.cell? ⟨b, off + k, none⟩ = some (.int .i64 (us.getD k 0)) := (hb.cell (p := ⟨b, off + k, none⟩) hbl).trans (hc k hlt)
          obtain ⟨b', off', rfl, hbl', hc'⟩ := hR.2 (by omega)
          obtain ⟨Ak, ck, d2, d3, d4⟩ := hc' k hlt
          have d5 : wr.cell? ⟨b', off' + k, none⟩ = some (.slice Ak (rss.getD k []).length ck) := (hb.cell (p := ⟨b', off' + k, none⟩) hbl').trans d2
          rw [hl k hlt] at d4 d5
          have bd := cCars_bd bu br s k
          have bk := bu k
          have hs1 := show cCars us rss s (k + 1) = cCars us rss s k + min (us.getD k 0) (cRate (rss.getD k []) s 6) from rfl
          have brk := br k
          obtain ⟨rs, hrs⟩ : ∃ rs, rss.getD k [] = rs := ⟨_, rfl⟩
          rw [hrs] at d4 hs1 brk
          obtain ⟨G, hG⟩ : ∃ G, cCars us rss s k = G := ⟨_, rfl⟩
          rw [hG] at bd hs1 ⊢
          obtain ⟨z, hz⟩ : ∃ z, us.getD k 0 = z := ⟨_, rfl⟩
          rw [hz] at d1 bk hs1
          have HS := Lib.hid hs1
          have HB := Lib.hid hb
          have i1 : (0 : Int) ≤ (k : Int) := by omega
          have i2 : (k : Int) < (n : Int) := by omega
          clear hc hc' d2 d3 hrs hG hz hs1 hb
          go_wp2
          go_loopw [14, 45] (fun v i wx => ∃ j : Nat, j ≤ 6 ∧ i = .int .i64 j ∧ v = .int .i64 (cRate rs s j) ∧ wx = wr) (fun _ i _ => 6 - (intOf i).toNat)
          case atStart => exact ⟨0, by omega, rfl, rfl, rfl⟩
          case round =>
            obtain ⟨j, hj, rfl, rfl, rfl⟩ := hrel
            by_cases hlt2 : j < 6
            · obtain ⟨b2, off2, rfl, hbl2, hc2⟩ := d4.2 (by omega)
              have e1 : wr.cell? ⟨b2, off2 + j, none⟩ = some (.int .i64 (rs.getD j 0)) := (HB.out.cell (p := ⟨b2, off2 + j, none⟩) hbl2).trans (hc2 j hlt2)
              have bd2 := cRate_bd brk s j
              have bk2 := brk j
              have hs2 := show cRate rs s (j + 1) = cRate rs s j + (if s.testBit j then 0 else rs.getD j 0) from rfl
              generalize cRate rs s j = G2 at *
              generalize rs.getD j 0 = z2 at *
              have an := (test_and s j (by omega) (by omega)).2
              clear hc2
              cases hbit : s.testBit j
              · rw [hbit] at hs2 an
                simp at hs2
                simp only [Bool.not_false] at an
                have HS2 := Lib.hid hs2
                clear hs2
                go_wp2
                go_roundw
                case rel => exact ⟨j + 1, hlt2, by go_num, by rw [HS2.out], by simp⟩
                case measure => simp [intOf]; omega
              · rw [hbit] at hs2 an
                simp at hs2
                simp only [Bool.not_true] at an
                have HS2 := Lib.hid hs2
                clear hs2
                go_wp2
                go_roundw
                case rel => exact ⟨j + 1, hlt2, by go_num, by rw [HS2.out], by simp⟩
                case measure => simp [intOf]; omega
            · obtain rfl : j = 6 := by omega
              have bd2 := cRate_bd brk s 6
              have hs3 := HS.out
              obtain ⟨G2, hG2⟩ : ∃ G2, cRate rs s 6 = G2 := ⟨_, rfl⟩
              rw [hG2] at bd2 hs3 ⊢
              have HS3 := Lib.hid hs3
              clear hs3 hG2 HS
              go_wp2
              all_goals
                go_roundw
                case rel => exact ⟨k + 1, hlt, by go_num, by rw [HS3.out]; congr 1; omega, HB.out⟩
                case measure => simp [intOf]; omega
        · obtain rfl : k = n := by omega
          go_wp2
          go_ret
          exact ⟨ret_int (by unfold cutV; rw [HF.out, hA.1]), hb⟩
theorem cutV_bd {us : List Int} {rss : List (List Int)} {cs : List Int} (bu : Bd us) (br : ∀ k, Bd (rss.getD k [])) (bc : Bd cs) (s : Nat) (hn : us.length ≤ 100) : 0 ≤ cutV us rss cs s ∧ cutV us rss cs s ≤ 106000 := by
  have := cFeed_bd bc s 6
  have := cCars_bd bu br s us.length
  unfold cutV; omega
theorem leastTo_bd {us : List Int} {rss : List (List Int)} {cs : List Int} (bu : Bd us) (br : ∀ k, Bd (rss.getD k [])) (bc : Bd cs) (s : Nat) (hn : us.length ≤ 100) : 0 ≤ leastTo us rss cs s ∧ leastTo us rss cs s ≤ 106000 := by
  induction s with
  | zero => exact cutV_bd bu br bc 0 hn
  | succ s ih => have := cutV_bd bu br bc (s + 1) hn; unfold leastTo; omega
set_option maxHeartbeats 1000000 in
theorem leastCut_i (A R C : Option Addr) (n c1 c2 c3 : Nat) (us : List Int) (rss : List (List Int)) (cs : List Int) (w : World) (hA : Ints w A n us) (hR : Tabs w R n rss) (hC : Ints w C 6 cs) (hn : n ≤ 100) (hl : ∀ k, k < n → (rss.getD k []).length = 6) (bu : Bd us) (br : ∀ k, Bd (rss.getD k [])) (bc : Bd cs) :
    Calls Tryd.prog 64 #[.slice A n c1, .slice R n c2, .slice C 6 c3] w fun e w' => e = .returned (.int .i64 (lcV us rss cs)) ∧ Below w.heap.size w w' := by
  have h0 := cutOf_i A R C n c1 c2 c3 us rss cs 0 w hA hR hC hn hl bu br bc (by omega)
  have z0 : leastTo us rss cs 0 = cutV us rss cs 0 := rfl
  rw [← z0] at h0
  go_enter Tryd.func64, Tryd.ntmps64
  go_wp2_with (go_at_call 99; refine h0.mono ?_; rintro e w1 ⟨rfl, hb1⟩)
  clear h0 z0
  go_loopw [7, 8] (fun v i wr => ∃ s : Nat, s ≤ 63 ∧ i = .int .i64 ((s : Int) + 1) ∧ v = .int .i64 (leastTo us rss cs s) ∧ Below w.heap.size w wr) (fun _ i _ => 64 - (intOf i).toNat)
  case atStart => exact ⟨0, by omega, rfl, rfl, hb1⟩
  case round =>
    clear hb1
    obtain ⟨s, hs, rfl, rfl, hb⟩ := hrel
    have bd := leastTo_bd bu br bc s (by rw [hA.1]; exact hn)
    by_cases hlt : s < 63
    · have hcut := cutOf_i A R C n c1 c2 c3 us rss cs (s + 1) wr (hA.below hb) (hR.below hb) (hC.below hb) hn hl bu br bc (by omega)
      rw [show ((s + 1 : Nat) : Int) = (s : Int) + 1 by omega] at hcut
      have bd2 := cutV_bd bu br bc (s + 1) (by rw [hA.1]; exact hn)
      have hs1 := show leastTo us rss cs (s + 1) = min (leastTo us rss cs s) (cutV us rss cs (s + 1)) from rfl
      generalize cutV us rss cs (s + 1) = C1 at *
      obtain ⟨L, hL⟩ : ∃ L, leastTo us rss cs s = L := ⟨_, rfl⟩
      rw [hL] at bd hs1 ⊢
      have HS := Lib.hid hs1
      have HB := Lib.hid hb
      clear hs1 hL hb
      go_wp2_with (go_at_call 99; refine hcut.mono ?_; rintro e w2 ⟨rfl, hb2⟩)
      all_goals
        go_roundw
        case rel => exact ⟨s + 1, by omega, by go_num, by rw [HS.out]; congr 1; omega, bt HB.out hb2⟩
        case measure => simp [intOf]; omega
    · obtain rfl : s = 63 := by omega
      go_wp2
      go_ret
      exact ⟨rfl, hb⟩
end Go.Proofs.YtoiaggjjfahabaaDoor
