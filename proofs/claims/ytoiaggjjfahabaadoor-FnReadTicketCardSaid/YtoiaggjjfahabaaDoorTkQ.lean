/- What spec.ReadTicket and impl.ReadTicket compute. Condition of impl.ReadTicket: the table of powers of ten holds what the program's text lays in it. -/
import Derived.Test.YtoiaggjjfahabaaDoorTkI
import Derived.Test.YtoiaggjjfahabaaDoorTkR
namespace Go.Proofs.YtoiaggjjfahabaaDoor
open Go.RowKit
set_option linter.unusedVariables false
/-- the number that a text tells, and whether it is a ticket -/
def RdQ (s : ByteArray) (w : World) (e : Ending) (w' : World) : Prop := e = .returned (.tuple #[.int .i64 (rdN s), .bool (rdB s)]) ∧ Below w.heap.size w w'
theorem byt_at (s : ByteArray) (i : Nat) (h : i < s.size) : (s[i]).toNat = byt s i := by
  unfold byt
  rw [List.getD_eq_getElem?_getD, Array.getElem?_toList, Array.getElem?_eq_getElem (show i < s.data.size from h)]
  rfl
theorem idxS (s : ByteArray) (i : Nat) (h : i < s.size) (w : World) : (Instr.index 9 (.string s) (.int .i64 i)).run Tryd.prog w = .ok (.int .u8 (byt s i)) w := by
  rw [run_index_string w 9 s .i64 i Tryd.underlying9, dif_pos (by omega)]
  have := byt_at s i h
  simp only [Int.toNat_natCast]
  rw [this]
theorem not5 {s : ByteArray} (h : s.size ≠ 5) : ¬ isT s := fun g => h ((isT_iff s).1 g).1
theorem notD {s : ByteArray} (j : Nat) (h4 : j < 4) (h : byt s j < 48 ∨ 57 < byt s j) : ¬ isT s := fun g => by have := ((isT_iff s).1 g).2.1 j h4; omega
set_option maxRecDepth 100000 in
set_option maxHeartbeats 1000000 in
theorem ReadTicket_s (s : ByteArray) (w : World) : Calls Tryd.prog 13 #[.string s] w (RdQ s w) := by
  by_cases h5 : s.size = 5
  · have T := fun w' n => TicketText_s n w'
    go_enter Tryd.func13, Tryd.ntmps13
    go_upto_region 5 with fail
    go_loopw [4, 5] (fun v i wr => ∃ j : Nat, j ≤ 4 ∧ v = .int .i64 (val s j) ∧ i = .int .i64 j ∧ (∀ i, i < j → 48 ≤ byt s i ∧ byt s i ≤ 57) ∧ w = wr) (fun _ i _ => 4 - (intOf i).toNat)
    case atStart => exact ⟨0, by omega, rfl, rfl, fun i hi => absurd hi (by omega), rfl⟩
    case round =>
      obtain ⟨j, hj, rfl, rfl, hd, rfl⟩ := hrel
      by_cases hlt : j < 4
      · have I := idxS s j (by omega)
        have hb := byt_lt s j
        have hv := val_lt s j hd
        have hno := @notD s j hlt
        have hV : (val s (j + 1) : Int) = val s j * 10 + ((byt s j - 48 : Nat) : Int) := by simp only [val]; omega
        have hd' : 48 ≤ byt s j → byt s j ≤ 57 → ∀ i, i < j + 1 → 48 ≤ byt s i ∧ byt s i ≤ 57 := fun g1 g2 i hi => by
          rcases Nat.lt_or_ge i j with q | q
          · exact hd i q
          · obtain rfl : i = j := by omega
            exact ⟨g1, g2⟩
        have h10 : 10 ^ j ≤ 1000 := Nat.pow_le_pow_right (n := 10) (by omega) (show j ≤ 3 by omega)
        have HD := Lib.hid hd'
        have HN := Lib.hid hno
        have HV := Lib.hid hV
        have hc : decide ((j : Int) < 4) = true := by simp; omega
        clear hd hd' hno hV T
        generalize byt s j = x at *
        generalize val s j = v at *
        by_cases g1 : x < 48
        · have g : decide ((x : Int) < 48) = true := by simp; omega
          obtain ⟨r1, r2⟩ := rd_no (HN.out (Or.inl g1))
          unfold RdQ
          rw [r1, r2]
          go_wp2
          exact bodyPost_ret (v := .tuple #[.int .i64 (-1), .bool false]) (by simp [results, Tryd.results13, go_sem]) rfl ⟨rfl, Below.refl _ _⟩
        · have g : decide ((x : Int) < 48) = false := by simp; omega
          by_cases g2 : 57 < x
          · have g' : decide (57 < (x : Int)) = true := by simp; omega
            obtain ⟨r1, r2⟩ := rd_no (HN.out (Or.inr g2))
            unfold RdQ
            rw [r1, r2]
            go_wp2
            exact bodyPost_ret (v := .tuple #[.int .i64 (-1), .bool false]) (by simp [results, Tryd.results13, go_sem]) rfl ⟨rfl, Below.refl _ _⟩
          · have g' : decide (57 < (x : Int)) = false := by simp; omega
            go_wp2
            go_roundw
            case rel => exact ⟨j + 1, hlt, by rw [HV.out]; congr 1; omega, by go_num, HD.out (by omega) (by omega), trivial⟩
            case measure => simp [intOf]; omega
      · obtain rfl : j = 4 := by omega
        obtain ⟨v1, v2, v3⟩ := tk_back h5 hd
        have ht : tk (val s 4) = tkB (val s 4) := by unfold tk; rw [if_pos (by omega)]; rfl
        have T1 := fun w' => T w' (val s 4)
        rw [ht] at T1
        generalize tkB (val s 4) = t at *
        generalize val s 4 = v at *
        cases hr : rdB s
        · rw [hr] at v2
          have r2 : rdN s = -1 := rd_no' hr
          unfold RdQ
          go_wp2_with (go_at_call 11; refine (T1 _).mono ?_; rintro e w1 ⟨rfl, hw⟩)
          exact bodyPost_ret (v := .tuple #[.int .i64 (-1), .bool false]) (by simp [results, Tryd.results13, go_sem]) rfl ⟨by rw [hr, r2], hw⟩
        · rw [hr] at v2
          have r2 := v3 hr
          unfold RdQ
          go_wp2_with (go_at_call 11; refine (T1 _).mono ?_; rintro e w1 ⟨rfl, hw⟩)
          exact bodyPost_ret (v := .tuple #[.int .i64 v, .bool true]) (by simp [results, Tryd.results13, go_sem]) rfl ⟨by rw [hr, r2], hw⟩
  · obtain ⟨r1, r2⟩ := rd_no (not5 h5)
    have hb : ((s.size : Int) != 5) = true := by simp; omega
    unfold RdQ
    rw [r1, r2]
    go_enter Tryd.func13, Tryd.ntmps13
    go_wp2
    exact bodyPost_ret (v := .tuple #[.int .i64 (-1), .bool false]) (by simp [results, Tryd.results13, go_sem]) rfl ⟨rfl, Below.refl _ _⟩
set_option maxRecDepth 100000 in
set_option maxHeartbeats 1000000 in
theorem ReadTicket_i (s : ByteArray) (w : World) (hT : TabT w) : Calls Tryd.prog 14 #[.string s] w (RdQ s w) := by
  by_cases h5 : s.size = 5
  · have T := fun w' n (h : TabT w') => TicketText_i n w' h
    go_enter Tryd.func14, Tryd.ntmps14
    go_upto_region 5 with fail
    go_loopw [4, 5] (fun v i wr => ∃ j : Nat, j ≤ 4 ∧ v = .int .i64 (val s j) ∧ i = .int .i64 j ∧ (∀ i, i < j → 48 ≤ byt s i ∧ byt s i ≤ 57) ∧ w = wr) (fun _ i _ => 4 - (intOf i).toNat)
    case atStart => exact ⟨0, by omega, rfl, rfl, fun i hi => absurd hi (by omega), rfl⟩
    case round =>
      obtain ⟨j, hj, rfl, rfl, hd, rfl⟩ := hrel
      by_cases hlt : j < 4
      · have I := idxS s j (by omega)
        have hb := byt_lt s j
        have hv := val_lt s j hd
        have hno := @notD s j hlt
        have hV : (val s (j + 1) : Int) = val s j * 10 + ((byt s j - 48 : Nat) : Int) := by simp only [val]; omega
        have hd' : 48 ≤ byt s j → byt s j ≤ 57 → ∀ i, i < j + 1 → 48 ≤ byt s i ∧ byt s i ≤ 57 := fun g1 g2 i hi => by
          rcases Nat.lt_or_ge i j with q | q
          · exact hd i q
          · obtain rfl : i = j := by omega
            exact ⟨g1, g2⟩
        have h10 : 10 ^ j ≤ 1000 := Nat.pow_le_pow_right (n := 10) (by omega) (show j ≤ 3 by omega)
        have HD := Lib.hid hd'
        have HN := Lib.hid hno
        have HV := Lib.hid hV
        have hc : decide ((j : Int) < 4) = true := by simp; omega
        clear hd hd' hno hV T
        generalize byt s j = x at *
        generalize val s j = v at *
        by_cases g1 : x < 48
        · have g : decide ((x : Int) < 48) = true := by simp; omega
          obtain ⟨r1, r2⟩ := rd_no (HN.out (Or.inl g1))
          unfold RdQ
          rw [r1, r2]
          go_wp2
          exact bodyPost_ret (v := .tuple #[.int .i64 (-1), .bool false]) (by simp [results, Tryd.results14, go_sem]) rfl ⟨rfl, Below.refl _ _⟩
        · have g : decide ((x : Int) < 48) = false := by simp; omega
          by_cases g2 : 57 < x
          · have g' : decide (57 < (x : Int)) = true := by simp; omega
            obtain ⟨r1, r2⟩ := rd_no (HN.out (Or.inr g2))
            unfold RdQ
            rw [r1, r2]
            go_wp2
            exact bodyPost_ret (v := .tuple #[.int .i64 (-1), .bool false]) (by simp [results, Tryd.results14, go_sem]) rfl ⟨rfl, Below.refl _ _⟩
          · have g' : decide (57 < (x : Int)) = false := by simp; omega
            go_wp2
            go_roundw
            case rel => exact ⟨j + 1, hlt, by rw [HV.out]; congr 1; omega, by go_num, HD.out (by omega) (by omega), trivial⟩
            case measure => simp [intOf]; omega
      · obtain rfl : j = 4 := by omega
        obtain ⟨v1, v2, v3⟩ := tk_back h5 hd
        have ht : tk (val s 4) = tkB (val s 4) := by unfold tk; rw [if_pos (by omega)]; rfl
        have T1 := fun w' (h : TabT w') => T w' (val s 4) h
        rw [ht] at T1
        generalize tkB (val s 4) = t at *
        generalize val s 4 = v at *
        cases hr : rdB s
        · rw [hr] at v2
          have r2 : rdN s = -1 := rd_no' hr
          unfold RdQ
          go_wp2_with (go_at_call 12; refine (T1 _ hT).mono ?_; rintro e w1 ⟨rfl, hw⟩)
          exact bodyPost_ret (v := .tuple #[.int .i64 (-1), .bool false]) (by simp [results, Tryd.results14, go_sem]) rfl ⟨by rw [hr, r2], hw⟩
        · rw [hr] at v2
          have r2 := v3 hr
          unfold RdQ
          go_wp2_with (go_at_call 12; refine (T1 _ hT).mono ?_; rintro e w1 ⟨rfl, hw⟩)
          exact bodyPost_ret (v := .tuple #[.int .i64 v, .bool true]) (by simp [results, Tryd.results14, go_sem]) rfl ⟨by rw [hr, r2], hw⟩
  · obtain ⟨r1, r2⟩ := rd_no (not5 h5)
    have hb : ((s.size : Int) != 5) = true := by simp; omega
    unfold RdQ
    rw [r1, r2]
    go_enter Tryd.func14, Tryd.ntmps14
    go_wp2
    exact bodyPost_ret (v := .tuple #[.int .i64 (-1), .bool false]) (by simp [results, Tryd.results14, go_sem]) rfl ⟨rfl, Below.refl _ _⟩
end Go.Proofs.YtoiaggjjfahabaaDoor
