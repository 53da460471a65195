/- The draw and the walk of laws.FnTicketText. Condition: the table of powers of ten holds what the program's text lays in it. -/
import Derived.Test.YtoiaggjjfahabaaDoorTkL
import Derived.Test.YtoiaggjjfahabaaDoorTkT
import Derived.Test.YtoiaggjjfahabaaDoorNews
import Derived.Test.YtoiaggjjfahabaaDoorAliveL
import Derived.Laws.DeepStrings4
namespace Go.Proofs.YtoiaggjjfahabaaDoor
open Go.RowKit
set_option linter.unusedVariables false
theorem slH (s : ByteArray) (k : Nat) (h : k ≤ s.size) (a : ByteArray) (e : s.extract 0 k = a) (w : World) : (Instr.slice 9 (.string s) none (some (.int .i64 k)) none).run Tryd.prog w = .ok (.string a) w := by
  rw [run_slice_string_h w 9 s Tryd.underlying9 .i64 k (by omega) (by omega), Int.toNat_natCast, e]
theorem slL (s : ByteArray) (v : Int) (k : Nat) (hv : v = k) (h : k ≤ s.size) (a : ByteArray) (e : s.extract k s.size = a) (w : World) : (Instr.slice 9 (.string s) (some (.int .i64 v)) none none).run Tryd.prog w = .ok (.string a) w := by
  subst hv
  rw [run_slice_string_l w 9 s Tryd.underlying9 .i64 k (by omega) (by omega), Int.toNat_natCast, e]
theorem slM (s : ByteArray) (v u : Int) (j k : Nat) (hv : v = j) (hu : u = k) (hjk : j ≤ k) (h : k ≤ s.size) (a : ByteArray) (e : s.extract j k = a) (w : World) : (Instr.slice 9 (.string s) (some (.int .i64 v)) (some (.int .i64 u)) none).run Tryd.prog w = .ok (.string a) w := by
  subst hv; subst hu
  rw [run_slice_string_if, if_pos (by omega), if_pos (by omega), Int.toNat_natCast, Int.toNat_natCast, e]
  exact Tryd.underlying9
theorem wr1 (k : Nat) (h : k ≤ 100) : IntKind.i64.wrap ((k : Int) + 1) = ((k + 1 : Nat) : Int) := by rw [IntWalk.i64_in _ (by omega)]; omega
set_option maxRecDepth 100000 in
set_option maxHeartbeats 1000000 in
theorem drawTicketText_ok (A : Option Addr) (n cap : Nat) (zs : List Int) (w : World) (h : Nums .u8 w A n cap zs) (hn : n ≤ 1048576) :
    Calls Tryd.prog 36 #[.slice A n cap] w fun e w' => ∃ x, e = .returned (.int .i64 x) ∧ Below w.heap.size w w' := by
  go_enter Tryd.func36, Tryd.ntmps36
  go_upto_region 2 with (go_at_call 48; ((with_reducible refine (opN A n cap zs _ h hn).mono ?_); rintro e w1 ⟨rfl, hr, hb, hlt⟩; clear h))
  have H1 := Lib.hid hr
  have B1 := Lib.hid hb
  clear hr hb
  go_wp2_with (first
    | (go_at_call 50; refine (pk w.heap.size _ _ _ H1.out (by omega) (by omega) (by omega)).mono ?_; rintro e w2 ⟨x1, rfl, y1, z1, hr, s1⟩; have H2 := Lib.hid hr; have B2 := Lib.hid (B1.out.trans s1.1); clear hr s1 H1 B1)
    | (go_at_call 50; refine (pk w.heap.size _ _ _ H2.out (by omega) (by omega) (by omega)).mono ?_; rintro e w3 ⟨x2, rfl, y2, z2, hr, s1⟩; have H3 := Lib.hid hr; have B3 := Lib.hid (B2.out.trans s1.1); clear hr s1 H2 B2)
    | (go_at_call 50; refine (pk w.heap.size _ _ _ H3.out (by omega) (by omega) (by omega)).mono ?_; rintro e w4 ⟨x3, rfl, y3, z3, hr, s1⟩; have B4 := Lib.hid (B3.out.trans s1.1); clear hr s1 H3 B3))
  go_ret
  exact ⟨_, rfl, B4.out⟩
set_option maxRecDepth 100000 in
set_option maxHeartbeats 4000000 in
theorem FnTicketText_walk (w : World) (A : Option Addr) (n cap : Nat) (zs : List Int) (h : Nums .u8 w A n cap zs) (hT : TabT w) :
    Calls Tryd.prog 8 #[.slice A n cap] w fun e w' => e = .returned (.bool true) ∧ Below w.heap.size w w' := by
  go_enter Tryd.func8, Tryd.ntmps8
  by_cases hn : 1048576 < n
  · have hnb : decide (1048576 < n) = true := by simpa using hn
    clear h
    go_wp2
    go_ret
    exact ⟨rfl, by (repeat (first | exact Below.refl _ _ | assumption | refine Below.alloc ?_ (by first | omega | (simp; done) | (simp; omega)) _ | refine Below.drew ?_ | refine bdN ?_ _ | refine Below.setCell ?_ (by first | omega | (simp; done) | (simp; omega)) _))⟩
  · have hnb : decide (1048576 < n) = false := by simpa using hn
    go_upto_region 4 with (go_at_call 36; refine (drawTicketText_ok A n cap zs _ h (by omega)).mono ?_; rintro E w1 ⟨x, rfl, hw⟩; clear h)
    have HT : ∀ w', Below w.heap.size w w' → TabT w' := fun w' hb => hT.below hb
    clear hn hnb hT
    have S := TicketText_s x
    have I := TicketText_i x
    by_cases hx : 0 ≤ x ∧ x ≤ 9999
    · obtain ⟨m, rfl⟩ : ∃ m : Nat, x = m := ⟨x.toNat, by omega⟩
      have ht : tk m = tkB m := by unfold tk; rw [if_pos hx]; rfl
      rw [ht] at S I
      have hs := tkB_size m
      have hm : m ≤ 9999 := by omega
      have RD := Lib.hid (fun k d hk hd => repl_rd m k d hm hk hd)
      have SW := Lib.hid (fun j k hk hj => swp_rd m j k hm hk hj)
      have RT := fun w' (hb : Below w.heap.size w w') s => ReadTicket_i s w' (HT w' hb)
      have RF := fun w' (hb : Below w.heap.size w w') => RT w' hb (tkB m)
      unfold RdQ at RF
      rw [(rd_yes m hm).1, (rd_yes m hm).2] at RF
      have hne : ((tkB m).toList == ([] : List UInt8)) = false := by
        rw [beq_eq_false_iff_ne]
        intro e
        rw [ByteArray.toList_eq] at e
        have : (tkB m).data.size = 5 := hs
        rw [← Array.length_toList, e] at this
        cases this
      generalize tkB m = t at *
      have HS := Lib.hid hs
      clear hs ht hm hx
      go_upto_region 9 with (first
        | (go_at_call 12; refine (I _ (HT _ hw)).mono ?_; rintro E w2 ⟨rfl, hb⟩; replace hw := bt hw hb; clear hb I HT)
        | (go_at_call 11; refine (S _).mono ?_; rintro E w2 ⟨rfl, hb⟩; replace hw := bt hw hb; clear hb S))
      go_wp2
      go_loopw [5] (fun v wr => ∃ k : Nat, k ≤ 4 ∧ v = .int .i64 k ∧ Below w.heap.size w wr) (fun v _ => 4 - (intOf v).toNat)
      case atStart => exact ⟨0, by omega, rfl, hw⟩
      case round =>
        clear hw
        obtain ⟨k, hk, rfl, hw⟩ := hrel
        by_cases hlt : k < 4
        · have hc : decide ((k : Int) < 4) = true := by simp; omega
          have sz := HS.out
          have wk := wr1 k (by omega)
          have HK := Lib.hid hlt
          have Ik := idxS t k (by omega)
          have P1 := slH t k (by omega) _ rfl
          have P3 := slL t _ (k + 1) wk (by omega) _ rfl
          clear sz hlt wk
          generalize wr = wo at *
          go_upto_region 13 with fail
          go_loopw [6] (fun v wr => ∃ i : Nat, i ≤ 10 ∧ v = .int .i64 i ∧ Below w.heap.size w wr) (fun v _ => 10 - (intOf v).toNat)
          case atStart => exact ⟨0, by omega, rfl, hw⟩
          case round =>
            clear hw
            obtain ⟨i, hi, rfl, hw⟩ := hrel
            by_cases hli : i < 10
            · have hc2 : decide ((i : Int) < 10) = true := by simp; omega
              have P2 := slM dgs i _ i (i + 1) rfl (wr1 i (by omega)) (by omega) (show i + 1 ≤ 10 by omega) _ rfl
              have Q1 := fun w => addS w (t.extract 0 k) (dgs.extract i (i + 1)) _ rfl (by
                have := HS.out
                rw [size_ext t 0 k (by have := HK.out; omega), size_ext dgs i (i + 1) (show i + 1 ≤ 10 by omega)]; have := HK.out; omega)
              have Q2 := fun w => addS w (t.extract 0 k ++ dgs.extract i (i + 1)) (t.extract (k + 1) t.size) (repl t k i) rfl (by
                have := HS.out
                rw [size_app, size_ext t 0 k (by have := HK.out; omega), size_ext dgs i (i + 1) (show i + 1 ≤ 10 by omega), size_ext t (k + 1) t.size (Nat.le_refl _)]; have := HK.out; omega)
              have I2 := idxS dgs i (show i < 10 by omega)
              rw [byt_dgs i hli] at I2
              have rd := RD.out k i HK.out hli
              have R2 := fun w' hb => RT w' hb (repl t k i)
              unfold RdQ at R2
              rw [rd] at R2
              obtain ⟨b, hb⟩ : ∃ b, decide (byt t k = 48 + i) = b := ⟨_, rfl⟩
              have hq : ((byt t k : Int) == ((48 + i : Nat) : Int)) = b := by rw [← hb, Bool.eq_iff_iff, beq_iff_eq, decide_eq_true_iff]; omega
              rw [hb] at R2
              generalize repl t k i = r at *
              generalize byt t k = xb at *
              generalize 48 + i = yb at *
              generalize t.extract 0 k = a1 at *
              generalize dgs.extract i (i + 1) = a2 at *
              generalize t.extract (k + 1) t.size = a3 at *
              generalize a1 ++ a2 = a12 at *
              unfold dgs at P2 I2
              have HI := Lib.hid hli
              clear hli rd hb
              go_upto_region 15 with fail
              go_region_with (go_at_call 14; refine (R2 _ (by first | exact hw | exact hw.drew)).mono ?_; rintro E w2 ⟨rfl, hb⟩)
              go_upto_region 16 with fail
              go_region
              all_goals
                go_wp2_with fail
                go_roundw
                case rel => first | exact ⟨i + 1, by have := HI.out; omega, by go_num, by first | exact hw.trans (hb.mono hw.size) | exact (hw.drew.trans (hb.mono hw.size)) | exact (hw.drew.trans (hb.mono hw.size)).drew⟩ | ((repeat apply Exists.intro); exact ⟨⟨i + 1, by have := HI.out; omega, by go_num, by first | exact hw.trans (hb.mono hw.size) | exact (hw.drew.trans (hb.mono hw.size)) | exact (hw.drew.trans (hb.mono hw.size)).drew⟩, rfl⟩)
                case measure => have := HI.out; simp [intOf]; omega
            · obtain rfl : i = 10 := by omega
              have hc2 : decide (((10 : Nat) : Int) < 10) = false := by simp
              generalize wr = wo2 at *
              go_upto_region 19 with fail
              go_loopw [9] (fun v wr => ∃ j : Nat, j ≤ k ∧ v = .int .i64 j ∧ Below w.heap.size w wr) (fun v _ => k - (intOf v).toNat)
              case atStart => exact ⟨0, by omega, rfl, hw⟩
              case round =>
                clear hw
                obtain ⟨j, hj, rfl, hw⟩ := hrel
                by_cases hjk : j < k
                · have hc3 : decide ((j : Int) < (k : Int)) = true := by simp; omega
                  have klt := HK.out
                  have sz := HS.out
                  have z1 := size_ext t 0 j (by omega)
                  have z2 := size_ext t k (k + 1) (by omega)
                  have z3 := size_ext t (j + 1) k (by omega)
                  have z4 := size_ext t j (j + 1) (by omega)
                  have z5 := size_ext t (k + 1) t.size (Nat.le_refl _)
                  have wk := wr1 k (by omega)
                  have wj := wr1 j (by omega)
                  have L1 := slH t j (by omega) _ rfl
                  have L2 := slM t _ _ k (k + 1) rfl wk (by omega) (by omega) _ rfl
                  have L3 := slM t _ _ (j + 1) k wj rfl (by omega) (by omega) _ rfl
                  have L4 := slM t _ _ j (j + 1) rfl wj (by omega) (by omega) _ rfl
                  have Q1 := fun w => addS w (t.extract 0 j) (t.extract k (k + 1)) _ rfl (by omega)
                  have Q2 := fun w => addS w (t.extract 0 j ++ t.extract k (k + 1)) (t.extract (j + 1) k) _ rfl (by rw [size_app]; omega)
                  have Q3 := fun w => addS w (t.extract 0 j ++ t.extract k (k + 1) ++ t.extract (j + 1) k) (t.extract j (j + 1)) _ rfl (by rw [size_app, size_app]; omega)
                  have Q4 := fun w => addS w (t.extract 0 j ++ t.extract k (k + 1) ++ t.extract (j + 1) k ++ t.extract j (j + 1)) (t.extract (k + 1) t.size) (swp t j k) rfl (by rw [size_app, size_app, size_app]; omega)
                  have I2 := idxS t j (by omega)
                  have rd := SW.out j k klt hjk
                  have R2 := fun w' hb => RT w' hb (swp t j k)
                  unfold RdQ at R2
                  rw [rd] at R2
                  obtain ⟨b, hb⟩ : ∃ b, decide (byt t j = byt t k) = b := ⟨_, rfl⟩
                  have hq : ((byt t j : Int) == (byt t k : Int)) = b := by rw [← hb, Bool.eq_iff_iff, beq_iff_eq, decide_eq_true_iff]; omega
                  rw [hb] at R2
                  clear sz z1 z2 z3 z4 z5 wk wj rd hb
                  generalize swp t j k = r at *
                  generalize byt t k = xb at *
                  generalize byt t j = yb at *
                  generalize t.extract 0 j ++ t.extract k (k + 1) ++ t.extract (j + 1) k ++ t.extract j (j + 1) = b4 at *
                  generalize t.extract 0 j ++ t.extract k (k + 1) ++ t.extract (j + 1) k = b3 at *
                  generalize t.extract 0 j ++ t.extract k (k + 1) = b2 at *
                  generalize t.extract 0 j = a1 at *
                  generalize t.extract k (k + 1) = a2 at *
                  generalize t.extract (j + 1) k = a3 at *
                  generalize t.extract j (j + 1) = a4 at *
                  generalize t.extract (k + 1) t.size = a5 at *
                  have HJ := Lib.hid hjk
                  clear hjk klt hj
                  go_upto_region 21 with fail
                  go_region_with (go_at_call 14; refine (R2 _ (by first | exact hw | exact hw.drew)).mono ?_; rintro E w2 ⟨rfl, hb⟩)
                  go_upto_region 22 with fail
                  go_region
                  all_goals
                    go_wp2_with fail
                    go_roundw
                    case rel => first | exact ⟨j + 1, HJ.out, by go_num, by first | exact hw.trans (hb.mono hw.size) | exact (hw.drew.trans (hb.mono hw.size)) | exact (hw.drew.trans (hb.mono hw.size)).drew⟩ | ((repeat apply Exists.intro); exact ⟨⟨j + 1, HJ.out, by go_num, by first | exact hw.trans (hb.mono hw.size) | exact (hw.drew.trans (hb.mono hw.size)) | exact (hw.drew.trans (hb.mono hw.size)).drew⟩, rfl⟩)
                    case measure => have := HJ.out; simp [intOf]; omega
                · obtain rfl : j = k := by omega
                  have hc3 : decide ((j : Int) < (j : Int)) = false := by simp
                  have klt := HK.out
                  go_wp2
                  go_roundw
                  case rel => exact ⟨j + 1, by omega, by go_num, hw⟩
                  case measure => simp [intOf]; omega
        · obtain rfl : k = 4 := by omega
          have hc : decide (((4 : Nat) : Int) < 4) = false := by simp
          have h5 := HS.out
          go_wp2_with (go_at_call 14; refine (RF _ hw).mono ?_; rintro E w2 ⟨rfl, hb⟩; replace hw := hw.trans (hb.mono hw.size))
          go_ret
          exact ⟨rfl, hw⟩
    · have ht : tk x = ⟨#[]⟩ := by unfold tk; rw [if_neg hx]
      rw [ht] at S I
      have hcs : (decide (x < 0) = true) ∨ (decide (x < 0) = false ∧ decide (9999 < x) = true) := by simp; omega
      rcases hcs with hc | ⟨hc, hc2⟩
      all_goals
        go_wp2_with (first
          | (go_at_call 12; refine (I _ (HT _ hw)).mono ?_; rintro E w2 ⟨rfl, hb⟩; replace hw := bt hw hb; clear hb I HT)
          | (go_at_call 11; refine (S _).mono ?_; rintro E w2 ⟨rfl, hb⟩; replace hw := bt hw hb; clear hb S)
          | (go_at_call 19; refine (alive_ok _).mono ?_; rintro E w2 ⟨rfl, hb⟩; replace hw := bt hw hb; clear hb))
        go_ret
        exact ⟨rfl, hw⟩
end Go.Proofs.YtoiaggjjfahabaaDoor
