/- l4Most of the reference: what it computes. Conditions: six rates a car, six hours, small numbers. -/
import Derived.Test.YtoiaggjjfahabaaDoorChg8
namespace Go.Proofs.YtoiaggjjfahabaaDoor
open Go.RowKit
set_option linter.unusedVariables false
/-- one more cut looked at -/
def nxtL (V X : Int) : Int := if V < 0 ∨ X < V then X else V
set_option maxRecDepth 100000 in
set_option maxHeartbeats 2000000 in
theorem l4Most_s (A R C : Option Addr) (n c1 c2 c3 : Nat) (us : List Int) (rss : List (List Int)) (cs : List Int) (w : World) (hA : Ints w A n us) (hR : Tabs w R n rss) (hC : Ints w C 6 cs) (hn : n ≤ 100) (hl : ∀ k, k < n → (rss.getD k []).length = 6) (bu : Bd us) (br : ∀ k, Bd (rss.getD k [])) (bc : Bd cs) :
    Calls Tryd.prog 115 #[.slice A n c1, .slice R n c2, .slice C 6 c3] w fun e w' => e = .returned (.int .i64 (lcV us rss cs)) ∧ Below w.heap.size w w' := by
  have hlen := hA.1
  go_enter Tryd.func115, Tryd.ntmps115
  go_wp2
  go_loopw [7, 8] (fun v i wr => ∃ s : Nat, s ≤ 64 ∧ i = .int .i64 s ∧ v = .int .i64 (if s = 0 then -1 else leastTo us rss cs (s - 1)) ∧ Below w.heap.size w wr) (fun _ i _ => 64 - (intOf i).toNat)
  case atStart => exact ⟨0, by omega, rfl, rfl, by (repeat (first | exact Below.refl _ _ | assumption | refine Below.alloc ?_ (by first | omega | (simp; done) | (simp; omega)) _ | refine Below.drew ?_ | refine bdN ?_ _ | refine Below.setCell ?_ (by first | omega | (simp; done) | (simp; omega)) _))⟩
  case round =>
    obtain ⟨s, hs, rfl, rfl, hb⟩ := hrel
    by_cases hlt : s < 64
    · have hnx : leastTo us rss cs s = nxtL (if s = 0 then -1 else leastTo us rss cs (s - 1)) (cutV us rss cs s) := by
        rcases Nat.eq_zero_or_pos s with rfl | h0
        · unfold nxtL; simp; rfl
        · obtain ⟨t, rfl⟩ : ∃ t, s = t + 1 := ⟨s - 1, by omega⟩
          have lb := leastTo_bd bu br bc t (by omega)
          have e : (if t + 1 = 0 then (-1 : Int) else leastTo us rss cs (t + 1 - 1)) = leastTo us rss cs t := by rw [if_neg (by omega), Nat.add_sub_cancel]
          rw [e, show leastTo us rss cs (t + 1) = min (leastTo us rss cs t) (cutV us rss cs (t + 1)) from rfl]
          unfold nxtL
          split <;> omega
      have hVb : -1 ≤ (if s = 0 then -1 else leastTo us rss cs (s - 1)) ∧ (if s = 0 then -1 else leastTo us rss cs (s - 1)) ≤ 106000 := by
        have lb := leastTo_bd bu br bc (s - 1) (by omega)
        split <;> omega
      obtain ⟨V, hV⟩ : ∃ V, (if s = 0 then -1 else leastTo us rss cs (s - 1)) = V := ⟨_, rfl⟩
      rw [hV] at hnx hVb ⊢
      have HNX := Lib.hid hnx
      have i1 : (0 : Int) ≤ (s : Int) := by omega
      have i2 : (s : Int) < 64 := by omega
      have hw := Lib.hid hb
      replace hA := hA.below hb
      replace hR := hR.below hb
      replace hC := hC.below hb
      clear hV hnx hb
      obtain ⟨w1, hw1⟩ : ∃ w1 : World, w1 = wr := ⟨_, rfl⟩
      subst hw1
      go_wp2
      go_loopw [9, 10] (fun v i wx => ∃ k : Nat, k ≤ 6 ∧ i = .int .i64 k ∧ v = .int .i64 (cFeed cs s k) ∧ Below w1.heap.size w1 wx) (fun _ i _ => 6 - (intOf i).toNat)
      case atStart => exact ⟨0, by omega, rfl, rfl, by (repeat (first | exact Below.refl _ _ | assumption | refine Below.alloc ?_ (by first | omega | (simp; done) | (simp; omega)) _ | refine Below.drew ?_ | refine bdN ?_ _ | refine Below.setCell ?_ (by first | omega | (simp; done) | (simp; omega)) _))⟩
      case round =>
        obtain ⟨k, hk, rfl, rfl, hb⟩ := hrel
        by_cases hlt1 : k < 6
        · obtain ⟨b, off, rfl, hbl, hc⟩ := hC.2 (by omega)
          have c1 : wr.cell? ⟨b, off + k, none⟩ = some (.int .i64 (cs.getD k 0)) := (hb.cell (p := ⟨b, off + k, none⟩) hbl).trans (hc k hlt1)
          have bd := cFeed_bd bc s k
          have bk := bc k
          have hs1 := show cFeed cs s (k + 1) = cFeed cs s k + (if s.testBit k then cs.getD k 0 else 0) from rfl
          generalize cFeed cs s k = F at *
          generalize cs.getD k 0 = z at *
          have an := test_shr s k
          have HB := Lib.hid hb
          clear hc hb
          cases hbit : s.testBit k
          · rw [hbit] at hs1 an
            obtain ⟨an1, an2, an3, an4⟩ := an
            simp at hs1
            have HS := Lib.hid hs1
            clear hs1
            go_wp2
            go_roundw
            case rel => exact ⟨k + 1, hlt1, by go_num, by rw [HS.out], HB.out⟩
            case measure => simp [intOf]; omega
          · rw [hbit] at hs1 an
            obtain ⟨an1, an2, an3, an4⟩ := an
            simp at hs1
            have HS := Lib.hid hs1
            clear hs1
            go_wp2
            go_roundw
            case rel => exact ⟨k + 1, hlt1, by go_num, by rw [HS.out], HB.out⟩
            case measure => simp [intOf]; omega
        · obtain rfl : k = 6 := by omega
          have hw2 := Lib.hid (bt hw.out hb)
          replace hA := hA.below hb
          replace hR := hR.below hb
          clear hb hw
          obtain ⟨w2, hw3⟩ : ∃ w2 : World, w2 = wr := ⟨_, rfl⟩
          subst hw3
          obtain ⟨F, hF⟩ : ∃ F, cFeed cs s 6 = F := ⟨_, rfl⟩
          have F6 := cFeed_bd bc s 6
          rw [hF] at F6 ⊢
          have HF := Lib.hid hF
          clear hF
          go_wp2
          go_loopw [9, 11] (fun v i wx => ∃ k : Nat, k ≤ n ∧ i = .int .i64 k ∧ v = .int .i64 (F + cCars us rss s k) ∧ Below w2.heap.size w2 wx) (fun _ i _ => n - (intOf i).toNat)
          case atStart => exact ⟨0, by omega, rfl, by simp [cCars], by (repeat (first | exact Below.refl _ _ | assumption | refine Below.alloc ?_ (by first | omega | (simp; done) | (simp; omega)) _ | refine Below.drew ?_ | refine bdN ?_ _ | refine Below.setCell ?_ (by first | omega | (simp; done) | (simp; omega)) _))⟩
          case round =>
            obtain ⟨k, hk, rfl, rfl, hb⟩ := hrel
            by_cases hlt1 : k < n
            · obtain ⟨b, off, rfl, hbl, hc⟩ := hA.2 (by omega)
              have d1 : wr.cell? ⟨b, off + k, none⟩ = some (.int .i64 (us.getD k 0)) := (hb.cell (p := ⟨b, off + k, none⟩) hbl).trans (hc k hlt1)
              obtain ⟨b', off', rfl, hbl', hc'⟩ := hR.2 (by omega)
              obtain ⟨Ak, ck, d2, d3, d4⟩ := hc' k hlt1
              have d5 : wr.cell? ⟨b', off' + k, none⟩ = some (.slice Ak (rss.getD k []).length ck) := (hb.cell (p := ⟨b', off' + k, none⟩) hbl').trans d2
              rw [hl k hlt1] at d4 d5
              have bd := cCars_bd bu br s k
              have bk := bu k
              have hs1 := show cCars us rss s (k + 1) = cCars us rss s k + min (us.getD k 0) (cRate (rss.getD k []) s 6) from rfl
              have brk := br k
              obtain ⟨rs, hrs⟩ : ∃ rs, rss.getD k [] = rs := ⟨_, rfl⟩
              rw [hrs] at d4 hs1 brk
              obtain ⟨G, hG⟩ : ∃ G, cCars us rss s k = G := ⟨_, rfl⟩
              rw [hG] at bd hs1 ⊢
              obtain ⟨z, hz⟩ : ∃ z, us.getD k 0 = z := ⟨_, rfl⟩
              rw [hz] at d1 bk hs1
              have HS := Lib.hid hs1
              have HB := Lib.hid hb
              have hb3 := d4.below hb
              have i3 : (0 : Int) ≤ (k : Int) := by omega
              have i4 : (k : Int) < (n : Int) := by omega
              have hsz := hb.size
              have hbl2 := Nat.lt_of_lt_of_le hbl hsz
              have hbl3 := Nat.lt_of_lt_of_le hbl' hsz
              clear hc hc' d2 d3 hrs hG hz hs1 hb d4
              obtain ⟨w4, hw4⟩ : ∃ w4 : World, w4 = wr := ⟨_, rfl⟩
              subst hw4
              go_wp2
              go_loopw [12, 13] (fun v i wx => ∃ j : Nat, j ≤ 6 ∧ i = .int .i64 j ∧ v = .int .i64 (cRate rs s j) ∧ Below w4.heap.size w4 wx) (fun _ i _ => 6 - (intOf i).toNat)
              case atStart => exact ⟨0, by omega, rfl, rfl, by (repeat (first | exact Below.refl _ _ | assumption | refine Below.alloc ?_ (by first | omega | (simp; done) | (simp; omega)) _ | refine Below.drew ?_ | refine bdN ?_ _ | refine Below.setCell ?_ (by first | omega | (simp; done) | (simp; omega)) _))⟩
              case round =>
                obtain ⟨j, hj, rfl, rfl, hb⟩ := hrel
                by_cases hlt2 : j < 6
                · obtain ⟨b2, off2, rfl, hbl4, hc2⟩ := hb3.2 (by omega)
                  have e1 : wr.cell? ⟨b2, off2 + j, none⟩ = some (.int .i64 (rs.getD j 0)) := (hb.cell (p := ⟨b2, off2 + j, none⟩) hbl4).trans (hc2 j hlt2)
                  have e2 := (hb.cell (p := ⟨b', off' + k, none⟩) hbl3).trans d5
                  have bd2 := cRate_bd brk s j
                  have bk2 := brk j
                  have hs2 := show cRate rs s (j + 1) = cRate rs s j + (if s.testBit j then 0 else rs.getD j 0) from rfl
                  generalize cRate rs s j = G2 at *
                  generalize rs.getD j 0 = z2 at *
                  have an := test_shr s j
                  have HB2 := Lib.hid hb
                  clear hc2 hb
                  cases hbit : s.testBit j
                  · rw [hbit] at hs2 an
                    obtain ⟨an1, an2, an3, an4⟩ := an
                    simp only [Bool.not_false] at an2 an4
                    simp at hs2
                    have HS2 := Lib.hid hs2
                    clear hs2
                    go_wp2
                    go_roundw
                    case rel => exact ⟨j + 1, hlt2, by go_num, by rw [HS2.out], HB2.out⟩
                    case measure => simp [intOf]; omega
                  · rw [hbit] at hs2 an
                    obtain ⟨an1, an2, an3, an4⟩ := an
                    simp only [Bool.not_true] at an2 an4
                    simp at hs2
                    have HS2 := Lib.hid hs2
                    clear hs2
                    go_wp2
                    go_roundw
                    case rel => exact ⟨j + 1, hlt2, by go_num, by rw [HS2.out], HB2.out⟩
                    case measure => simp [intOf]; omega
                · obtain rfl : j = 6 := by omega
                  have bd2 := cRate_bd brk s 6
                  have hs3 := HS.out
                  have e2 := (hb.cell (p := ⟨b, off + k, none⟩) hbl2).trans d1
                  obtain ⟨G2, hG2⟩ : ∃ G2, cRate rs s 6 = G2 := ⟨_, rfl⟩
                  rw [hG2] at bd2 hs3 ⊢
                  have HS3 := Lib.hid hs3
                  clear hs3 hG2 HS
                  go_wp2
                  all_goals
                    go_roundw
                    case rel => exact ⟨k + 1, hlt1, by go_num, by rw [HS3.out]; congr 1; omega, bt HB.out hb⟩
                    case measure => simp [intOf]; omega
            · obtain rfl : k = n := by omega
              have hcut : cutV us rss cs s = F + cCars us rss s k := by unfold cutV; rw [HF.out, hlen]
              have cb := cutV_bd bu br bc s (by omega)
              have hnx := HNX.out
              rw [hcut] at hnx cb
              obtain ⟨X, hX⟩ : ∃ X, F + cCars us rss s k = X := ⟨_, rfl⟩
              rw [hX] at hnx cb ⊢
              unfold nxtL at hnx
              have HX := Lib.hid hnx
              clear hX hnx hcut HNX
              go_wp2
              all_goals
                go_roundw
                case rel => exact ⟨s + 1, by omega, by go_num, by rw [if_neg (by omega), Nat.add_sub_cancel, HX.out]; congr 1; split <;> omega, bt hw2.out hb⟩
                case measure => simp [intOf]; omega
    · obtain rfl : s = 64 := by omega
      go_wp2
      go_ret
      exact ⟨rfl, hb⟩
end Go.Proofs.YtoiaggjjfahabaaDoor
